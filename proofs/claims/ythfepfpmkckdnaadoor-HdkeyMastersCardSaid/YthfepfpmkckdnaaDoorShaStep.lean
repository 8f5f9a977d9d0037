/- hash.state256's step: one block of 64 bytes is taken as SHA-256 says, whatever the state and the block; the state alone is written. -/
import Derived.Test.YthfepfpmkckdnaaDoorShaSpec
import Derived.Test.YthfepfpmkckdnaaDoorMem
import Derived.Test.YthfepfpmkckdnaaDoorQTail
import Derived.Laws.CopyOwn
import Derived.Deep.Cut
namespace Go.Proofs.YthfepfpmkckdnaaDoor
set_option linter.unusedVariables false
set_option linter.unusedSimpArgs false
open Go Go.RowKit
theorem sbuf_row {w : World} {b : Nat} {l : List Int} {i : Nat} (h : Row w b 0 ((sbuf l i).map (Value.int .u32))) (hi : i < 64) (x : Int) (hx : x = if i < 16 then word l i else snext (sched l i) i) :
    Row (w.setCell ⟨b, i, none⟩ (.int .u32 x)) b 0 ((sbuf l (i + 1)).map (Value.int .u32)) := by
  have := h.setInt0 i (by rw [sbuf_length _ _ (by omega)]; exact hi) x
  rwa [sbuf_set l i hi x hx] at this
/-- a block that holds the eight words -/
def VB (w : World) (b : Nat) (T : TypeId) (s : St) : Prop := w.heap[b]? = some (.cells #[.int .u32 s.a, .int .u32 s.b, .int .u32 s.c, .int .u32 s.d, .int .u32 s.e, .int .u32 s.f, .int .u32 s.g, .int .u32 s.h] T (0, 0))
theorem VB.cells {w : World} {b : Nat} {T : TypeId} {s : St} (h : VB w b T s) : w.cell? ⟨b, 0, none⟩ = some (.int .u32 s.a) ∧ w.cell? ⟨b, 1, none⟩ = some (.int .u32 s.b) ∧ w.cell? ⟨b, 2, none⟩ = some (.int .u32 s.c) ∧ w.cell? ⟨b, 3, none⟩ = some (.int .u32 s.d)
    ∧ w.cell? ⟨b, 4, none⟩ = some (.int .u32 s.e) ∧ w.cell? ⟨b, 5, none⟩ = some (.int .u32 s.f) ∧ w.cell? ⟨b, 6, none⟩ = some (.int .u32 s.g) ∧ w.cell? ⟨b, 7, none⟩ = some (.int .u32 s.h) := by
  unfold VB at h
  simp [World.cell?, h]
theorem Row.eight {w : World} {b o : Nat} {s : St} (h : Row w b o (s.list.map (Value.int .u32))) : w.cell? ⟨b, o, none⟩ = some (.int .u32 s.a) ∧ w.cell? ⟨b, o + 1, none⟩ = some (.int .u32 s.b) ∧ w.cell? ⟨b, o + 2, none⟩ = some (.int .u32 s.c) ∧ w.cell? ⟨b, o + 3, none⟩ = some (.int .u32 s.d)
    ∧ w.cell? ⟨b, o + 4, none⟩ = some (.int .u32 s.e) ∧ w.cell? ⟨b, o + 5, none⟩ = some (.int .u32 s.f) ∧ w.cell? ⟨b, o + 6, none⟩ = some (.int .u32 s.g) ∧ w.cell? ⟨b, o + 7, none⟩ = some (.int .u32 s.h) :=
  ⟨h.int 0 (by simp [St.list]), h.int 1 (by simp [St.list]), h.int 2 (by simp [St.list]), h.int 3 (by simp [St.list]), h.int 4 (by simp [St.list]), h.int 5 (by simp [St.list]), h.int 6 (by simp [St.list]), h.int 7 (by simp [St.list])⟩
theorem sz_u32 : (Tryd.prog.info? 27).map (·.size) = some 1 := by kernel_rfl
theorem VB.src {w : World} {b : Nat} {T : TypeId} {s : St} (h : VB w b T s) : ∀ (j : Nat) (v : Value), ([.int .u32 s.a, .int .u32 s.b, .int .u32 s.c, .int .u32 s.d, .int .u32 s.e, .int .u32 s.f, .int .u32 s.g] : List Value)[j]? = some v → w.cell? ((⟨b, 0, none⟩ : Addr).add j) = some v := by
  obtain ⟨h0, h1, h2, h3, h4, h5, h6, h7⟩ := h.cells
  intro j v hv
  have hadd : (⟨b, 0, none⟩ : Addr).add j = ⟨b, j, none⟩ := by unfold Addr.add; split <;> simp_all
  rw [hadd]
  rcases j with _ | _ | _ | _ | _ | _ | _ | j <;> simp at hv <;> subst hv <;> assumption
/-- the eight words moved on by one -/
def shifted (s : St) : Array Value := #[.int .u32 s.a, .int .u32 s.a, .int .u32 s.b, .int .u32 s.c, .int .u32 s.d, .int .u32 s.e, .int .u32 s.f, .int .u32 s.g]
theorem copy_shift {w : World} {ops : Array Oper} {rest : List Oper} {o : Oper} {a : Act} {Q : Exit → Act → World → Prop} (hgd : o.guard = none) (d sr : Operand)
    (ho : o.op = .call { callee := .builtin .copy, args := #[d, sr], argTypes := #[41, 41] }) (g : Nat) (c1 c2 : Nat)
    (hd : a.eval d = .slice (some ⟨g, 1, none⟩) 7 c1) (hs : a.eval sr = .slice (some ⟨g, 0, none⟩) 7 c2) (T : TypeId) (s : St) (hv : VB w g T s)
    (h : ∀ w', w'.heap[g]? = some (.cells (shifted s) T (0, 0)) → Chg (· = g) w w' → wpList Tryd.prog ops Q rest (a.put o.dst (.int .i64 7)) w') : wpList Tryd.prog ops Q (o :: rest) a w := by
  refine wpList_copy_own hgd d sr _ _ ho 27 Tryd.underlying41 sz_u32 g 1 7 c1 ⟨g, 0, none⟩ 7 c2 hd hs _ T hv _ rfl hv.src (by simp) ?_ ?_
  · intro v hv; simp at hv; rcases hv with rfl | rfl | rfl | rfl | rfl | rfl | rfl <;> rfl
  · refine h _ ?_ ⟨rfl, rfl, rfl, by simp [World.setRow], fun k _ hk => setRow_other _ _ _ _ hk⟩
    rw [setRow_heap _ _ _ _ _ _ hv]
    simp [shifted]
theorem shifted_cells {w : World} {g : Nat} {T : TypeId} {s : St} (h : w.heap[g]? = some (.cells (shifted s) T (0, 0))) :
    w.cell? ⟨g, 4, none⟩ = some (.int .u32 s.d) ∧ w.cell? ⟨g, 0, none⟩ = some (.int .u32 s.a) ∧ w.frozen? ⟨g, 4, none⟩ = false ∧ w.frozen? ⟨g, 0, none⟩ = false := by
  simp [World.cell?, World.frozen?, h, shifted]
theorem vb_after {w : World} {g : Nat} {T : TypeId} {s : St} (h : w.heap[g]? = some (.cells (shifted s) T (0, 0))) (x y : Int) :
    VB ((w.setCell ⟨g, 4, none⟩ (.int .u32 x)).setCell ⟨g, 0, none⟩ (.int .u32 y)) g T ⟨y, s.a, s.b, s.c, x, s.e, s.f, s.g⟩ := by
  unfold VB
  rw [heap_setCell_same _ _ _ _ _ _ (heap_setCell_same _ _ _ _ _ _ h)]
  simp [shifted]
theorem VB.row {w : World} {b : Nat} {T : TypeId} {s : St} (h : VB w b T s) : Row w b 0 (s.list.map (Value.int .u32)) := fun j v hv => by
  rw [Nat.zero_add]
  refine ⟨?_, frozen_of_row _ _ _ _ _ h⟩
  rw [cell_of_row _ _ _ _ _ _ h]
  simpa [St.list] using hv
/-- the first i sums, then what was there -/
def mixl (s t : St) (i : Nat) : List Int := (s.plus t).list.take i ++ s.list.drop i
theorem list_length (s : St) : s.list.length = 8 := rfl
theorem mixl_length (s t : St) (i : Nat) (h : i ≤ 8) : (mixl s t i).length = 8 := by simp [mixl, list_length]; omega
theorem mixl_getD (s t : St) (i : Nat) (h : i < 8) : (mixl s t i).getD i 0 = s.list.getD i 0 := by
  have : i = 0 ∨ i = 1 ∨ i = 2 ∨ i = 3 ∨ i = 4 ∨ i = 5 ∨ i = 6 ∨ i = 7 := by omega
  rcases this with rfl | rfl | rfl | rfl | rfl | rfl | rfl | rfl <;> rfl
theorem mixl_set (s t : St) (i : Nat) (h : i < 8) : (mixl s t i).set i ((s.list.getD i 0 + t.list.getD i 0) % 4294967296) = mixl s t (i + 1) := by
  have : i = 0 ∨ i = 1 ∨ i = 2 ∨ i = 3 ∨ i = 4 ∨ i = 5 ∨ i = 6 ∨ i = 7 := by omega
  rcases this with rfl | rfl | rfl | rfl | rfl | rfl | rfl | rfl <;> rfl
theorem mixl_zero (s t : St) : mixl s t 0 = s.list := rfl
theorem mixl_full (s t : St) : mixl s t 8 = (s.plus t).list := rfl
theorem mix_row {w : World} {b o : Nat} {s t : St} {i : Nat} (h : Row w b o ((mixl s t i).map (Value.int .u32))) (hi : i < 8) :
    Row (w.setCell ⟨b, o + i, none⟩ (.int .u32 ((s.list.getD i 0 + t.list.getD i 0) % 4294967296))) b o ((mixl s t (i + 1)).map (Value.int .u32)) := by
  have := h.setInt i (by rw [mixl_length _ _ _ (by omega)]; exact hi) ((s.list.getD i 0 + t.list.getD i 0) % 4294967296)
  rwa [mixl_set _ _ _ hi] at this
theorem vb_round {w : World} {g : Nat} {T : TypeId} {s : St} (h : w.heap[g]? = some (.cells (shifted s) T (0, 0))) (k xx x y : Int) (hx : x = (s.round k xx).e) (hy : y = (s.round k xx).a) :
    VB ((w.setCell ⟨g, 4, none⟩ (.int .u32 x)).setCell ⟨g, 0, none⟩ (.int .u32 y)) g T (s.round k xx) := by
  subst hx hy; exact vb_after h _ _
end Go.Proofs.YthfepfpmkckdnaaDoor
