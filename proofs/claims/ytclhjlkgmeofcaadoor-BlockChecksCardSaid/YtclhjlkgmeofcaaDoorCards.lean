/-
  DERIVED. GIVEN WITH THE SEED: THE CARDS: each row of YtclhjlkgmeofcaaDoorRows.lean that lists a variable, with what it lists TIED to the program's text (the seventh form; the later family's looks); each row that meets fmt, with fmt's text TOLD by the authors' own Lean function (tested against real Go, not proved from fmt's source: count such statements apart). THE CARD IS WHAT COUNTS. Prove the row's statement (the work); the ties are given (YtclhjlkgmeofcaaDoorTie.lean); close each card by the builder's one call (the guide's Derived/Test/ToyasCard.lean, 'card_holds'). Laid BY PROGRAM, IN A SANDBOX (cutbox-door.mjs). By AI agents, Wed Nov 11 2026. No macro, syntax, notation, axiom, sorry.
-/
import Derived.Test.YtclhjlkgmeofcaaDoorRows
import GoSem.ClaimSeven
namespace Go.Proofs.YtclhjlkgmeofcaaDoor
namespace Rows

/-- THE TIED CARD OF 'strongboxlaw10.BlockRoots'. -/
def blockRootsCard : Claim7 := { stood := { row := blockRootsRow, standIns := [], harness := (true, "f6bbca98e02028ef5607c9729730be3bbcf3465fcdbbaa416c7084d29a52fe71"), looks := true }, kinds := [], alts := [], laidByText := true, laidKinds := [.data, .pinned], laidTests := true, laidLooks := .later }
def BlockRootsCardSaid : Prop := Claim7.holds Tryd.pinned (.plain (OpenSpec.ofChange blockRootsSpec)) blockRootsCard

/-- THE TIED CARD OF 'strongboxlaw10.BlockChecks'. -/
def blockChecksCard : Claim7 := { stood := { row := blockChecksRow, standIns := [], harness := (true, "f6bbca98e02028ef5607c9729730be3bbcf3465fcdbbaa416c7084d29a52fe71"), looks := true }, kinds := [], alts := [], laidByText := true, laidKinds := [.data, .pinned], laidTests := true, laidLooks := .later }
def BlockChecksCardSaid : Prop := Claim7.holds Tryd.pinned (.plain (OpenSpec.ofChange blockChecksSpec)) blockChecksCard

/-- THE TIED CARD OF 'strongboxlaw10.BlockReads'. -/
def blockReadsCard : Claim7 := { stood := { row := blockReadsRow, standIns := [], harness := (true, "f6bbca98e02028ef5607c9729730be3bbcf3465fcdbbaa416c7084d29a52fe71"), looks := true }, kinds := [], alts := [], laidByText := true, laidKinds := [.data, .pinned], laidTests := true, laidLooks := .later }
def BlockReadsCardSaid : Prop := Claim7.holds Tryd.pinned (.plain (OpenSpec.ofChange blockReadsSpec)) blockReadsCard

/-- THE SECOND FORM's CARD OF 'strongboxlaw10.BlockRoots'. -/
def blockRootsUptoCard : Claim7 := { stood := { row := blockRootsUptoRow, standIns := [], harness := (true, "f6bbca98e02028ef5607c9729730be3bbcf3465fcdbbaa416c7084d29a52fe71"), looks := true }, kinds := [], alts := [], laidByText := true, laidKinds := [.data, .pinned], laidTests := true, laidLooks := .later }
def BlockRootsUptoCardSaid : Prop := Claim7.holds Tryd.pinned (.plain (OpenSpec.upto blockRootsSpec)) blockRootsUptoCard

/-- THE SECOND FORM's CARD OF 'strongboxlaw10.BlockChecks'. -/
def blockChecksUptoCard : Claim7 := { stood := { row := blockChecksUptoRow, standIns := [], harness := (true, "f6bbca98e02028ef5607c9729730be3bbcf3465fcdbbaa416c7084d29a52fe71"), looks := true }, kinds := [], alts := [], laidByText := true, laidKinds := [.data, .pinned], laidTests := true, laidLooks := .later }
def BlockChecksUptoCardSaid : Prop := Claim7.holds Tryd.pinned (.plain (OpenSpec.upto blockChecksSpec)) blockChecksUptoCard

/-- THE SECOND FORM's CARD OF 'strongboxlaw10.BlockReads'. -/
def blockReadsUptoCard : Claim7 := { stood := { row := blockReadsUptoRow, standIns := [], harness := (true, "f6bbca98e02028ef5607c9729730be3bbcf3465fcdbbaa416c7084d29a52fe71"), looks := true }, kinds := [], alts := [], laidByText := true, laidKinds := [.data, .pinned], laidTests := true, laidLooks := .later }
def BlockReadsUptoCardSaid : Prop := Claim7.holds Tryd.pinned (.plain (OpenSpec.upto blockReadsSpec)) blockReadsUptoCard
end Rows
end Go.Proofs.YtclhjlkgmeofcaaDoor
