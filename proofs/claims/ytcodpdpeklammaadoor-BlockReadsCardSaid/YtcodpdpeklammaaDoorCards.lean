/-
  DERIVED. GIVEN WITH THE SEED: THE CARDS: each row of YtcodpdpeklammaaDoorRows.lean that lists a variable, with what it lists TIED to the program's text (the seventh form; the later family's looks); each row that meets fmt, with fmt's text TOLD by the authors' own Lean function (tested against real Go, not proved from fmt's source: count such statements apart). THE CARD IS WHAT COUNTS. Prove the row's statement (the work); the ties are given (YtcodpdpeklammaaDoorTie.lean); close each card by the builder's one call (the guide's Derived/Test/ToyasCard.lean, 'card_holds'). Laid BY PROGRAM, IN A SANDBOX (cutbox-door.mjs). By AI agents, Wed Nov 11 2026. No macro, syntax, notation, axiom, sorry.
-/
import Derived.Test.YtcodpdpeklammaaDoorRows
import GoSem.ClaimSeven
namespace Go.Proofs.YtcodpdpeklammaaDoor
namespace Rows

/-- THE TIED CARD OF 'strongboxlaw10.BlockReads'. -/
def blockReadsCard : Claim7 := { stood := { row := blockReadsRow, standIns := [], harness := (true, "6f13ad4f57ecb82054685159bb030a16c7d01f937d8929576469092aab0b1f54"), looks := true }, kinds := [], alts := [], laidByText := true, laidKinds := [.data, .pinned], laidTests := true, laidLooks := .later }
def BlockReadsCardSaid : Prop := Claim7.holds Tryd.pinned (.plain (OpenSpec.ofChange blockReadsSpec)) blockReadsCard

/-- THE SECOND FORM's CARD OF 'strongboxlaw10.BlockReads'. -/
def blockReadsUptoCard : Claim7 := { stood := { row := blockReadsUptoRow, standIns := [], harness := (true, "6f13ad4f57ecb82054685159bb030a16c7d01f937d8929576469092aab0b1f54"), looks := true }, kinds := [], alts := [], laidByText := true, laidKinds := [.data, .pinned], laidTests := true, laidLooks := .later }
def BlockReadsUptoCardSaid : Prop := Claim7.holds Tryd.pinned (.plain (OpenSpec.upto blockReadsSpec)) blockReadsUptoCard
end Rows
end Go.Proofs.YtcodpdpeklammaaDoor
