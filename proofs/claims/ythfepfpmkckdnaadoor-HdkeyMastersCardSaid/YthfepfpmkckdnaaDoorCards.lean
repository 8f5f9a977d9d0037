/-
  DERIVED. GIVEN WITH THE SEED: THE CARDS: each row of YthfepfpmkckdnaaDoorRows.lean that lists a variable, with what it lists TIED to the program's text (the seventh form; the later family's looks); each row that meets fmt, with fmt's text TOLD by the authors' own Lean function (tested against real Go, not proved from fmt's source: count such statements apart). THE CARD IS WHAT COUNTS. Prove the row's statement (the work); the ties are given (YthfepfpmkckdnaaDoorTie.lean); close each card by the builder's one call (the guide's Derived/Test/ToyasCard.lean, 'card_holds'). Laid BY PROGRAM, IN A SANDBOX (cutbox-door.mjs). By AI agents, Wed Nov 11 2026. No macro, syntax, notation, axiom, sorry.
-/
import Derived.Test.YthfepfpmkckdnaaDoorRows
import GoSem.ClaimSeven
namespace Go.Proofs.YthfepfpmkckdnaaDoor
namespace Rows

/-- THE TIED CARD OF 'strongboxlaw06.HdkeyMasters'. -/
def hdkeyMastersCard : Claim7 := { stood := { row := hdkeyMastersRow, standIns := [], harness := (true, "7a4be7c4dd4aaa939f065b46c3f8e1b92243920327ad457471aaa684c6e64c23"), looks := false }, kinds := [], alts := [], laidByText := true, laidKinds := [.data, .data, .data], laidTests := true, laidLooks := .later }
def HdkeyMastersCardSaid : Prop := Claim7.holds Tryd.pinned (.plain (OpenSpec.ofChange hdkeyMastersSpec)) hdkeyMastersCard

/-- THE TIED CARD OF 'strongboxlaw06.HdkeyPaths'. -/
def hdkeyPathsCard : Claim7 := { stood := { row := hdkeyPathsRow, standIns := [], harness := (true, "7a4be7c4dd4aaa939f065b46c3f8e1b92243920327ad457471aaa684c6e64c23"), looks := false }, kinds := [], alts := [], laidByText := true, laidKinds := [.data, .data, .data, .data, .pinned], laidTests := true, laidLooks := .later }
def HdkeyPathsCardSaid : Prop := Claim7.holds Tryd.pinned (.plain (OpenSpec.ofChange hdkeyPathsSpec)) hdkeyPathsCard

/-- THE SECOND FORM's CARD OF 'strongboxlaw06.HdkeyMasters'. -/
def hdkeyMastersUptoCard : Claim7 := { stood := { row := hdkeyMastersUptoRow, standIns := [], harness := (true, "7a4be7c4dd4aaa939f065b46c3f8e1b92243920327ad457471aaa684c6e64c23"), looks := false }, kinds := [], alts := [], laidByText := true, laidKinds := [.data, .data, .data], laidTests := true, laidLooks := .later }
def HdkeyMastersUptoCardSaid : Prop := Claim7.holds Tryd.pinned (.plain (OpenSpec.upto hdkeyMastersSpec)) hdkeyMastersUptoCard

/-- THE SECOND FORM's CARD OF 'strongboxlaw06.HdkeyPaths'. -/
def hdkeyPathsUptoCard : Claim7 := { stood := { row := hdkeyPathsUptoRow, standIns := [], harness := (true, "7a4be7c4dd4aaa939f065b46c3f8e1b92243920327ad457471aaa684c6e64c23"), looks := false }, kinds := [], alts := [], laidByText := true, laidKinds := [.data, .data, .data, .data, .pinned], laidTests := true, laidLooks := .later }
def HdkeyPathsUptoCardSaid : Prop := Claim7.holds Tryd.pinned (.plain (OpenSpec.upto hdkeyPathsSpec)) hdkeyPathsUptoCard
end Rows
end Go.Proofs.YthfepfpmkckdnaaDoor
