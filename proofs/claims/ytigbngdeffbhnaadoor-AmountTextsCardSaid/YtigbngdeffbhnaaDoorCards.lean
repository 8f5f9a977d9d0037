/-
  DERIVED. GIVEN WITH THE SEED: THE CARDS: each row of YtigbngdeffbhnaaDoorRows.lean that lists a variable, with what it lists TIED to the program's text (the seventh form; the later family's looks); each row that meets fmt, with fmt's text TOLD by the authors' own Lean function (tested against real Go, not proved from fmt's source: count such statements apart). THE CARD IS WHAT COUNTS. Prove the row's statement (the work); the ties are given (YtigbngdeffbhnaaDoorTie.lean); close each card by the builder's one call (the guide's Derived/Test/ToyasCard.lean, 'card_holds'). Laid BY PROGRAM, IN A SANDBOX (cutbox-door.mjs). By AI agents, Wed Nov 11 2026. No macro, syntax, notation, axiom, sorry.
-/
import Derived.Test.YtigbngdeffbhnaaDoorRows
import GoSem.ClaimSeven
namespace Go.Proofs.YtigbngdeffbhnaaDoor
namespace Rows

/-- THE TIED CARD OF 'strongboxlaw04.AmountTexts'. -/
def amountTextsCard : Claim7 := { stood := { row := amountTextsRow, standIns := [], harness := (true, "cec0cf001173b9030fd927030d423ce8ff3f81ffb47a467f8ea073435a3dfc79"), looks := true }, kinds := [], alts := [], laidByText := true, laidKinds := [.data, .data, .data, .sentinel, .sentinel], laidTests := true, laidLooks := .later }
def AmountTextsCardSaid : Prop := Claim7.holds Tryd.pinned (.plain (OpenSpec.ofChange amountTextsSpec)) amountTextsCard

/-- THE SECOND FORM's CARD OF 'strongboxlaw04.AmountTexts'. -/
def amountTextsUptoCard : Claim7 := { stood := { row := amountTextsUptoRow, standIns := [], harness := (true, "cec0cf001173b9030fd927030d423ce8ff3f81ffb47a467f8ea073435a3dfc79"), looks := true }, kinds := [], alts := [], laidByText := true, laidKinds := [.data, .data, .data, .sentinel, .sentinel], laidTests := true, laidLooks := .later }
def AmountTextsUptoCardSaid : Prop := Claim7.holds Tryd.pinned (.plain (OpenSpec.upto amountTextsSpec)) amountTextsUptoCard
end Rows
end Go.Proofs.YtigbngdeffbhnaaDoor
