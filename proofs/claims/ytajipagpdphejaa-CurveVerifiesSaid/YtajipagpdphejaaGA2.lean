/- hash.state256's step: one block of 64 bytes is taken as SHA-256 says, whatever the state and the block; the state alone is written. -/
import Derived.Test.YtajipagpdphejaaGA0
import Derived.Test.YtajipagpdphejaaGA1
import Derived.Laws.CopyOwn
import Derived.Deep.Cut
namespace Go.Proofs.Ytajipagpdphejaa
set_option linter.unusedVariables false
set_option linter.unusedSimpArgs false
open Go Go.RowKit
/-- a block that holds the eight words -/
def VB (w : World) (b : Nat) (T : TypeId) (s : St) : Prop := w.heap[b]? = some (.cells #[.int .u32 s.a, .int .u32 s.b, .int .u32 s.c, .int .u32 s.d, .int .u32 s.e, .int .u32 s.f, .int .u32 s.g, .int .u32 s.h] T (0, 0))
theorem VB.cells {w : World} {b : Nat} {T : TypeId} {s : St} (h : VB w b T s) : w.cell? ⟨b, 0, none⟩ = some (.int .u32 s.a) ∧ w.cell? ⟨b, 1, none⟩ = some (.int .u32 s.b) ∧ w.cell? ⟨b, 2, none⟩ = some (.int .u32 s.c) ∧ w.cell? ⟨b, 3, none⟩ = some (.int .u32 s.d)
    ∧ w.cell? ⟨b, 4, none⟩ = some (.int .u32 s.e) ∧ w.cell? ⟨b, 5, none⟩ = some (.int .u32 s.f) ∧ w.cell? ⟨b, 6, none⟩ = some (.int .u32 s.g) ∧ w.cell? ⟨b, 7, none⟩ = some (.int .u32 s.h) := by
  unfold VB at h
  simp [World.cell?, h]
theorem Row.eight {w : World} {b o : Nat} {s : St} (h : Row w b o (s.list.map (Value.int .u32))) : w.cell? ⟨b, o, none⟩ = some (.int .u32 s.a) ∧ w.cell? ⟨b, o + 1, none⟩ = some (.int .u32 s.b) ∧ w.cell? ⟨b, o + 2, none⟩ = some (.int .u32 s.c) ∧ w.cell? ⟨b, o + 3, none⟩ = some (.int .u32 s.d)
    ∧ w.cell? ⟨b, o + 4, none⟩ = some (.int .u32 s.e) ∧ w.cell? ⟨b, o + 5, none⟩ = some (.int .u32 s.f) ∧ w.cell? ⟨b, o + 6, none⟩ = some (.int .u32 s.g) ∧ w.cell? ⟨b, o + 7, none⟩ = some (.int .u32 s.h) :=
  ⟨h.int 0 (by simp [St.list]), h.int 1 (by simp [St.list]), h.int 2 (by simp [St.list]), h.int 3 (by simp [St.list]), h.int 4 (by simp [St.list]), h.int 5 (by simp [St.list]), h.int 6 (by simp [St.list]), h.int 7 (by simp [St.list])⟩
theorem VB.row {w : World} {b : Nat} {T : TypeId} {s : St} (h : VB w b T s) : Row w b 0 (s.list.map (Value.int .u32)) := fun j v hv => by
  rw [Nat.zero_add]
  refine ⟨?_, frozen_of_row _ _ _ _ _ h⟩
  rw [cell_of_row _ _ _ _ _ _ h]
  simpa [St.list] using hv
end Go.Proofs.Ytajipagpdphejaa
