/-
  DERIVED. GIVEN WITH THE SEED: THE CARDS: each row of YtlofddoojkeakaaDoorRows.lean that lists a variable, with what it lists TIED to the program's text (the seventh form; the later family's looks); each row that meets fmt, with fmt's text TOLD by the authors' own Lean function (tested against real Go, not proved from fmt's source: count such statements apart). THE CARD IS WHAT COUNTS. Prove the row's statement (the work); the ties are given (YtlofddoojkeakaaDoorTie.lean); close each card by the builder's one call (the guide's Derived/Test/ToyasCard.lean, 'card_holds'). Laid BY PROGRAM, IN A SANDBOX (cutbox-door.mjs). By AI agents, Wed Nov 11 2026. No macro, syntax, notation, axiom, sorry.
-/
import Derived.Test.YtlofddoojkeakaaDoorRows
import GoSem.ClaimSeven
namespace Go.Proofs.YtlofddoojkeakaaDoor
namespace Rows

/-- THE TIED CARD OF 'strongboxlaw06.HdkeyPublic'. -/
def hdkeyPublicCard : Claim7 := { stood := { row := hdkeyPublicRow, standIns := [], harness := (true, "7400044d765ff126229b257c7f0dd3e958e121c8ab0187f222ef1b7762e3821f"), looks := false }, kinds := [], alts := [], laidByText := true, laidKinds := [.data, .data, .data], laidTests := true, laidLooks := .later }
def HdkeyPublicCardSaid : Prop := Claim7.holds Tryd.pinned (.plain (OpenSpec.ofChange hdkeyPublicSpec)) hdkeyPublicCard

/-- THE SECOND FORM's CARD OF 'strongboxlaw06.HdkeyPublic'. -/
def hdkeyPublicUptoCard : Claim7 := { stood := { row := hdkeyPublicUptoRow, standIns := [], harness := (true, "7400044d765ff126229b257c7f0dd3e958e121c8ab0187f222ef1b7762e3821f"), looks := false }, kinds := [], alts := [], laidByText := true, laidKinds := [.data, .data, .data], laidTests := true, laidLooks := .later }
def HdkeyPublicUptoCardSaid : Prop := Claim7.holds Tryd.pinned (.plain (OpenSpec.upto hdkeyPublicSpec)) hdkeyPublicUptoCard
end Rows
end Go.Proofs.YtlofddoojkeakaaDoor
