/-
  DERIVED. GIVEN WITH THE SEED: THE CARDS: each row of YtlofddoojkeakaaGreatDoorRows.lean that lists a variable, with what it lists TIED to the program's text (the seventh form; the later family's looks); each row that meets fmt, with fmt's text TOLD by the authors' own Lean function (tested against real Go, not proved from fmt's source: count such statements apart). THE CARD IS WHAT COUNTS. Prove the row's statement (the work); the ties are given (YtlofddoojkeakaaGreatDoorTie.lean); close each card by the builder's one call (the guide's Derived/Test/ToyasCard.lean, 'card_holds'). Laid BY PROGRAM, IN A SANDBOX (cutbox-door.mjs). By AI agents, Wed Nov 11 2026. No macro, syntax, notation, axiom, sorry.
-/
import Derived.Test.YtlofddoojkeakaaGreatDoorRows
import GoSem.ClaimSeven
namespace Go.Proofs.YtlofddoojkeakaaGreatDoor
namespace Rows

/-- THE TIED CARD OF 'strongboxlaw06.HdkeySteps'. -/
def hdkeyStepsCard : Claim7 := { stood := { row := hdkeyStepsRow, standIns := [], harness := (true, "365f4f050dac0000d339265461be61b12e01c0955b9f4c542bc3943d15b41db1"), looks := false }, kinds := [], alts := [], laidByText := true, laidKinds := [.data, .data, .data], laidTests := true, laidLooks := .later }
def HdkeyStepsCardSaid : Prop := Claim7.holds Tryz.pinned (.plain (OpenSpec.ofChange hdkeyStepsSpec)) hdkeyStepsCard

/-- THE TIED CARD OF 'strongboxlaw06.HdkeyWalks'. -/
def hdkeyWalksCard : Claim7 := { stood := { row := hdkeyWalksRow, standIns := [], harness := (true, "365f4f050dac0000d339265461be61b12e01c0955b9f4c542bc3943d15b41db1"), looks := false }, kinds := [], alts := [], laidByText := true, laidKinds := [.data, .data, .data], laidTests := true, laidLooks := .later }
def HdkeyWalksCardSaid : Prop := Claim7.holds Tryz.pinned (.plain (OpenSpec.ofChange hdkeyWalksSpec)) hdkeyWalksCard

/-- THE SECOND FORM's CARD OF 'strongboxlaw06.HdkeySteps'. -/
def hdkeyStepsUptoCard : Claim7 := { stood := { row := hdkeyStepsUptoRow, standIns := [], harness := (true, "365f4f050dac0000d339265461be61b12e01c0955b9f4c542bc3943d15b41db1"), looks := false }, kinds := [], alts := [], laidByText := true, laidKinds := [.data, .data, .data], laidTests := true, laidLooks := .later }
def HdkeyStepsUptoCardSaid : Prop := Claim7.holds Tryz.pinned (.plain (OpenSpec.upto hdkeyStepsSpec)) hdkeyStepsUptoCard

/-- THE SECOND FORM's CARD OF 'strongboxlaw06.HdkeyWalks'. -/
def hdkeyWalksUptoCard : Claim7 := { stood := { row := hdkeyWalksUptoRow, standIns := [], harness := (true, "365f4f050dac0000d339265461be61b12e01c0955b9f4c542bc3943d15b41db1"), looks := false }, kinds := [], alts := [], laidByText := true, laidKinds := [.data, .data, .data], laidTests := true, laidLooks := .later }
def HdkeyWalksUptoCardSaid : Prop := Claim7.holds Tryz.pinned (.plain (OpenSpec.upto hdkeyWalksSpec)) hdkeyWalksUptoCard
end Rows
end Go.Proofs.YtlofddoojkeakaaGreatDoor
