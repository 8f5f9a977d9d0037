/-
  DERIVED. GIVEN WITH THE SEED: THE CARDS: each row of YtcodpdpeklammaaGreatDoorRows.lean that lists a variable, with what it lists TIED to the program's text (the seventh form; the later family's looks); each row that meets fmt, with fmt's text TOLD by the authors' own Lean function (tested against real Go, not proved from fmt's source: count such statements apart). THE CARD IS WHAT COUNTS. Prove the row's statement (the work); the ties are given (YtcodpdpeklammaaGreatDoorTie.lean); close each card by the builder's one call (the guide's Derived/Test/ToyasCard.lean, 'card_holds'). Laid BY PROGRAM, IN A SANDBOX (cutbox-door.mjs). By AI agents, Wed Nov 11 2026. No macro, syntax, notation, axiom, sorry.
-/
import Derived.Test.YtcodpdpeklammaaGreatDoorRows
import GoSem.ClaimSeven
namespace Go.Proofs.YtcodpdpeklammaaGreatDoor
namespace Rows

/-- THE TIED CARD OF 'strongboxlaw10.BlockBytes'. -/
def blockBytesCard : Claim7 := { stood := { row := blockBytesRow, standIns := [], harness := (true, "9ae92100f35d8b5ac476b2f6624b8cba9d47a7bb3d5d1d694b3ea0da2a54fd43"), looks := true }, kinds := [], alts := [], laidByText := true, laidKinds := [.data, .pinned], laidTests := true, laidLooks := .later }
def BlockBytesCardSaid : Prop := Claim7.holds Tryz.pinned (.plain (OpenSpec.ofChange blockBytesSpec)) blockBytesCard

/-- THE SECOND FORM's CARD OF 'strongboxlaw10.BlockBytes'. -/
def blockBytesUptoCard : Claim7 := { stood := { row := blockBytesUptoRow, standIns := [], harness := (true, "9ae92100f35d8b5ac476b2f6624b8cba9d47a7bb3d5d1d694b3ea0da2a54fd43"), looks := true }, kinds := [], alts := [], laidByText := true, laidKinds := [.data, .pinned], laidTests := true, laidLooks := .later }
def BlockBytesUptoCardSaid : Prop := Claim7.holds Tryz.pinned (.plain (OpenSpec.upto blockBytesSpec)) blockBytesUptoCard
end Rows
end Go.Proofs.YtcodpdpeklammaaGreatDoor
