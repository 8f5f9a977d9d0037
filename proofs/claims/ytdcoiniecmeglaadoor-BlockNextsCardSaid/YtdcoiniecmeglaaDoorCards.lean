/-
  DERIVED. GIVEN WITH THE SEED: THE CARDS: each row of YtdcoiniecmeglaaDoorRows.lean that lists a variable, with what it lists TIED to the program's text (the seventh form; the later family's looks); each row that meets fmt, with fmt's text TOLD by the authors' own Lean function (tested against real Go, not proved from fmt's source: count such statements apart). THE CARD IS WHAT COUNTS. Prove the row's statement (the work); the ties are given (YtdcoiniecmeglaaDoorTie.lean); close each card by the builder's one call (the guide's Derived/Test/ToyasCard.lean, 'card_holds'). Laid BY PROGRAM, IN A SANDBOX (cutbox-door.mjs). By AI agents, Wed Nov 11 2026. No macro, syntax, notation, axiom, sorry.
-/
import Derived.Test.YtdcoiniecmeglaaDoorRows
import GoSem.ClaimSeven
namespace Go.Proofs.YtdcoiniecmeglaaDoor
namespace Rows

/-- THE TIED CARD OF 'strongboxlaw10.BlockNumbers'. -/
def blockNumbersCard : Claim7 := { stood := { row := blockNumbersRow, standIns := [], harness := (true, "4759fed2d11013ca71f13f7d7aaa2a01e8b9ddb670794d47e45a0e13f524245f"), looks := false }, kinds := [], alts := [], laidByText := true, laidKinds := [.data, .pinned], laidTests := true, laidLooks := .later }
def BlockNumbersCardSaid : Prop := Claim7.holds Tryd.pinned (.plain (OpenSpec.ofChange blockNumbersSpec)) blockNumbersCard

/-- THE TIED CARD OF 'strongboxlaw10.BlockTargets'. -/
def blockTargetsCard : Claim7 := { stood := { row := blockTargetsRow, standIns := [], harness := (true, "4759fed2d11013ca71f13f7d7aaa2a01e8b9ddb670794d47e45a0e13f524245f"), looks := false }, kinds := [], alts := [], laidByText := true, laidKinds := [.data, .pinned], laidTests := true, laidLooks := .later }
def BlockTargetsCardSaid : Prop := Claim7.holds Tryd.pinned (.plain (OpenSpec.ofChange blockTargetsSpec)) blockTargetsCard

/-- THE TIED CARD OF 'strongboxlaw10.BlockNexts'. -/
def blockNextsCard : Claim7 := { stood := { row := blockNextsRow, standIns := [], harness := (true, "4759fed2d11013ca71f13f7d7aaa2a01e8b9ddb670794d47e45a0e13f524245f"), looks := false }, kinds := [], alts := [], laidByText := true, laidKinds := [.data, .pinned], laidTests := true, laidLooks := .later }
def BlockNextsCardSaid : Prop := Claim7.holds Tryd.pinned (.plain (OpenSpec.ofChange blockNextsSpec)) blockNextsCard

/-- THE SECOND FORM's CARD OF 'strongboxlaw10.BlockNumbers'. -/
def blockNumbersUptoCard : Claim7 := { stood := { row := blockNumbersUptoRow, standIns := [], harness := (true, "4759fed2d11013ca71f13f7d7aaa2a01e8b9ddb670794d47e45a0e13f524245f"), looks := false }, kinds := [], alts := [], laidByText := true, laidKinds := [.data, .pinned], laidTests := true, laidLooks := .later }
def BlockNumbersUptoCardSaid : Prop := Claim7.holds Tryd.pinned (.plain (OpenSpec.upto blockNumbersSpec)) blockNumbersUptoCard

/-- THE SECOND FORM's CARD OF 'strongboxlaw10.BlockTargets'. -/
def blockTargetsUptoCard : Claim7 := { stood := { row := blockTargetsUptoRow, standIns := [], harness := (true, "4759fed2d11013ca71f13f7d7aaa2a01e8b9ddb670794d47e45a0e13f524245f"), looks := false }, kinds := [], alts := [], laidByText := true, laidKinds := [.data, .pinned], laidTests := true, laidLooks := .later }
def BlockTargetsUptoCardSaid : Prop := Claim7.holds Tryd.pinned (.plain (OpenSpec.upto blockTargetsSpec)) blockTargetsUptoCard

/-- THE SECOND FORM's CARD OF 'strongboxlaw10.BlockNexts'. -/
def blockNextsUptoCard : Claim7 := { stood := { row := blockNextsUptoRow, standIns := [], harness := (true, "4759fed2d11013ca71f13f7d7aaa2a01e8b9ddb670794d47e45a0e13f524245f"), looks := false }, kinds := [], alts := [], laidByText := true, laidKinds := [.data, .pinned], laidTests := true, laidLooks := .later }
def BlockNextsUptoCardSaid : Prop := Claim7.holds Tryd.pinned (.plain (OpenSpec.upto blockNextsSpec)) blockNextsUptoCard
end Rows
end Go.Proofs.YtdcoiniecmeglaaDoor
