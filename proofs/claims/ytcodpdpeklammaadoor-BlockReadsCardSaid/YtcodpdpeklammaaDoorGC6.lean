/- tx.Encode. -/
import Derived.Test.YtcodpdpeklammaaDoorGC5
namespace Go.Proofs.YtcodpdpeklammaaDoor
set_option linter.unusedVariables false
set_option linter.unusedSimpArgs false
open Go Go.RowKit

/-- a writer's invariant over a walk: its cell's block g, its slice v -/
theorem WrAt.base {w0 w1 W : World} {g : Nat} {v : Value} {n : Nat} {l : List Int} (h : WrAt w0 W g v n l) : Keeps w0 W := h.own.keeps
theorem WrAt.cast {w0 W : World} {g : Nat} {v : Value} {n m : Nat} {l r : List Int} (h : WrAt w0 W g v n l) (e : l = r) (e2 : n = m) : WrAt w0 W g v m r := by subst e e2; exact h
/-- a writer, and a row of another block -/
structure WSt (w0 W : World) (q : Nat) (v : Value) (n : Nat) (l : List Int) (p7 : Nat) (cs : List Value) : Prop where
  wr : WrAt w0 W q v n l
  row : Row W p7 0 cs
  lt : p7 < W.heap.size
  ne : p7 ≠ q
  ap : v.ownBlock ≠ some p7
theorem WSt.grown {w0 W W' : World} {q p7 n n' : Nat} {v v' : Value} {l l' : List Int} {cs : List Value} (h : WSt w0 W q v n l p7 cs) (h' : WrAt w0 W' q v' n' l') (hg : WGrown q v W W' v') : WSt w0 W' q v' n' l' p7 cs := by
  refine ⟨h', h.row.chg hg.1 (fun e => by rcases e with e | e; exact h.ne e; exact h.ap e), Nat.lt_of_lt_of_le h.lt hg.1.size, h.ne, ?_⟩
  rcases hg.2 with e | ⟨b, e1, e2⟩
  · rw [e]; exact h.ap
  · rw [e1]; intro e; cases e; have := h.lt; omega
theorem WSt.new {w0 W W5 : World} {q n : Nat} {v : Value} {l : List Int} {cs : List Value} (h : WrAt w0 W q v n l) (hk : Keeps W W5) (hr : Row W5 W.heap.size 0 cs) (hl : W.heap.size < W5.heap.size) : WSt w0 W5 q v n l W.heap.size cs :=
  ⟨h.keeps hk, hr, hl, by have := h.row.lt (by simp); omega, fun e => by have := h.own.buf.lt e; omega⟩
theorem WSt.at {w0 W : World} {q n p7 : Nat} {v : Value} {l : List Int} {d : InD} {sv wv : Value} (h : WSt w0 W q v n l p7 (inCells d sv wv)) (hl : d.hash.length = 32) :
    W.cell? ⟨p7, 32, none⟩ = some (.int .u32 d.index) ∧ W.cell? ⟨p7, 33, none⟩ = some sv ∧ W.cell? ⟨p7, 34, none⟩ = some (.int .u32 d.seq) ∧ W.cell? ⟨p7, 35, none⟩ = some wv := by
  have := at_index h.row hl
  simpa using this
theorem WSt.hash {w0 W : World} {q n p7 : Nat} {v : Value} {l : List Int} {d : InD} {sv wv : Value} (h : WSt w0 W q v n l p7 (inCells d sv wv)) (hl : d.hash.length = 32) : Rd W 1 (.slice (some ⟨p7, 0, none⟩) 32 32) 32 (d.hash.map (Value.int .u8)) := by
  have := h.row.take 32
  unfold inCells at this
  rw [List.take_append_of_le_length (by simp [hl]), List.take_of_length_le (by simp [hl])] at this
  exact Rd.of_row this (by simp [hl]) h.lt (Nat.le_refl _) (by unfold maxLen; omega)
theorem WrAt.norm {w0 W : World} {g : Nat} {v : Value} {n : Nat} {l r : List Int} (h : WrAt w0 W g v n l) (e : l = r) : WrAt w0 W g v r.length r := by subst e; have := h.len; rw [this]; exact h
theorem sz_in0 : zeroIn.length = 36 := rfl
/-- a slice that lay in memory ahead of the writer -/
theorem old_apart {w w0 W Wr : World} {q n : Nat} {v xv : Value} {l xs : List Int} {S : Nat → Prop} (hr : RB S Wr xv xs) (hS : ∀ g, S g → g < w.heap.size) (hk : Keeps w w0) (hq : w0.heap.size ≤ q) (h : WrAt w0 W q v n l) : ∀ b, xv.ownBlock = some b → b ≠ q ∧ v.ownBlock ≠ some b ∧ b < W.heap.size := by
  intro b e
  have h1 := hS b (hr.foot b e)
  have h2 := hk.size
  have h3 := h.own.keeps.size
  exact ⟨by omega, fun e2 => by have := h.own.new b e2; omega, by omega⟩
end Go.Proofs.YtcodpdpeklammaaDoor
