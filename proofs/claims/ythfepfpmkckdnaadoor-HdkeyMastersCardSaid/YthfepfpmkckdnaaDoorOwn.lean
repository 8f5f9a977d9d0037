/- A slice of bytes of one's own, that is appended to: what it reads, that all older memory stays. No condition. -/
import Derived.Test.YthfepfpmkckdnaaDoorSum
namespace Go.Proofs.YthfepfpmkckdnaaDoor
set_option linter.unusedVariables false
set_option linter.unusedSimpArgs false
open Go Go.RowKit

/-- from w on a slice of n bytes has been made in memory of its own: it reads as l; all that was there at w stays -/
structure Own (w W : World) (v : Value) (n : Nat) (l : List Int) : Prop where
  keeps : Keeps w W
  buf : Buf W 1 v n (l.map (Value.int .u8))
  new : ∀ g, v.ownBlock = some g → w.heap.size ≤ g
theorem Own.nil (w : World) : Own w w (.slice none 0 0) 0 [] := ⟨Keeps.refl _, Buf.nil _ _, fun g h => by simp [Value.ownBlock] at h⟩
theorem Own.made (w : World) (T : TypeId) : Own w (w.alloc (.cells #[] T)) (.slice (some ⟨w.heap.size, 0, none⟩) 0 0) 0 [] :=
  ⟨(Keeps.refl w).alloc (Nat.le_refl _) _, Buf.made T, fun g h => by simp [Value.ownBlock] at h; omega⟩
theorem Own.step {w W W' : World} {v : Value} {n : Nat} {l : List Int} (h : Own w W v n l) (hk : Keeps W W') : Own w W' v n l :=
  ⟨h.keeps.trans hk, h.buf.keeps hk, h.new⟩
theorem Own.len {w W : World} {v : Value} {n : Nat} {l : List Int} (h : Own w W v n l) : l.length = n := by have := h.buf.1; simpa using this
theorem Own.rd {w W : World} {v : Value} {n : Nat} {l : List Int} (h : Own w W v n l) : Rd W 1 v n (l.map (Value.int .u8)) := h.buf.rd
theorem Own.any {w W : World} {v : Value} {n : Nat} {l : List Int} (h : Own w W v n l) : ∃ a cap, v = .slice a n cap := by
  obtain ⟨a, cap, h1, _⟩ := h.buf.any
  exact ⟨a, cap, h1⟩
theorem Own.after {w W w1 w2 : World} {v v' : Value} {n m : Nat} {l r : List Int} (h : Own w W v n l) (hk : Keeps W w1) (hb : Buf w2 1 v' (n + m) (l.map (Value.int .u8) ++ r.map (Value.int .u8)))
    (hc : Chg (fun k => v.ownBlock = some k) w1 w2) (hs : SameOrNew w1 v v') : Own w w2 v' (n + m) (l ++ r) := by
  have hk1 := h.keeps.trans hk
  refine ⟨Below.trans hk1 (hc.below hk1.size (fun k hk2 e => by have := h.new k e; omega)), by rw [List.map_append]; exact hb, ?_⟩
  intro g hg
  rcases hs with e | ⟨g', e1, e2⟩
  · exact h.new g (by rw [← e]; exact hg)
  · rw [hg] at e1; cases e1; exact Nat.le_trans hk1.size e2
/-- an append's effect beside what it reads: only the old block is written; the new value lies there or in new memory -/
def Grown (w w' : World) (v v' : Value) : Prop := Chg (fun k => v.ownBlock = some k) w w' ∧ SameOrNew w v v'
/-- x lies in memory that is there, and not where v lies -/
def Apart (w : World) (x v : Value) : Prop := ∀ g, x.ownBlock = some g → g < w.heap.size ∧ v.ownBlock ≠ some g
theorem Apart.grown {w w' : World} {x v v' : Value} (h : Apart w x v) (hg : Grown w w' v v') : Apart w' x v' := by
  intro g e
  obtain ⟨h1, h2⟩ := h g e
  refine ⟨Nat.lt_of_lt_of_le h1 hg.1.size, ?_⟩
  rcases hg.2 with e2 | ⟨g', e2, e3⟩
  · rw [e2]; exact h2
  · rw [e2]; intro e4; cases e4; omega
theorem Rd.grown {w w' : World} {x v v' : Value} {size n : Nat} {xs : List Value} (h : Rd w size x n xs) (ha : Apart w x v) (hg : Grown w w' v v') : Rd w' size x n xs :=
  h.chg hg.1 (fun g e e2 => (ha g e).2 e2)
theorem Grown.keeps {w w1 w' : World} {v v' : Value} (hk : Keeps w w1) (h : Grown w1 w' v v') : Grown w w' v v' := by
  refine ⟨(hk.chg _).trans h.1, ?_⟩
  rcases h.2 with e | ⟨g, e1, e2⟩
  · exact .inl e
  · exact .inr ⟨g, e1, Nat.le_trans hk.size e2⟩
theorem own_append {w W W1 : World} {ops : Array Oper} {rest : List Oper} {o : Oper} {a : Act} {Q : Exit → Act → World → Prop} (hgd : o.guard = none) (s x : Operand)
    (ho : o.op = .call { callee := .builtin .append, args := #[s, x], argTypes := #[22, 22] }) {v : Value} {n : Nat} {l : List Int} (hO : Own w W v n l) (hk : Keeps W W1) (hv : a.eval s = v)
    (xv : Value) (hx : a.eval x = xv) (m : Nat) (r : List Int) (hs : Src Tryd.prog 1 22 xv m (r.map (Value.int .u8)) W1) (hn : n + m ≤ 140737488355328)
    (h : ∀ v' w', Own w w' v' (n + m) (l ++ r) → Grown W1 w' v v' → wpList Tryd.prog ops Q rest (a.put o.dst v') w') : wpList Tryd.prog ops Q (o :: rest) a W1 := by
  obtain ⟨i0, hi, hz0, hz1, hz2⟩ := info_parts u8_info
  exact wpList_append_buf hgd s x 22 22 ho 5 i0 (.int .u8 0) 1 1 Tryd.underlying22 hi hz0 hz1 hz2 rfl (by decide) v n _ hv (hO.buf.keeps hk) xv hx m _ hs (by unfold maxLen; omega) (by omega)
    (fun v' w' hb hc hs' _ => h v' w' (hO.after hk hb hc hs') ⟨hc, hs'⟩)
/-- one byte more -/
theorem own_append1 {w W : World} {ops : Array Oper} {rest : List Oper} {o : Oper} {a : Act} {Q : Exit → Act → World → Prop} (hgd : o.guard = none) (s x : Operand)
    (ho : o.op = .call { callee := .builtin .append, args := #[s, x], argTypes := #[22, 22] }) {v : Value} {n : Nat} {l : List Int} (hO : Own w W v n l) (hv : a.eval s = v)
    (c : Nat) (k : Int) (T : TypeId) (hx : a.eval x = .slice (some ⟨W.heap.size, 0, none⟩) 1 c) (hn : n < 140737488355328)
    (h : ∀ v' w', Own w w' v' (n + 1) (l ++ [k]) → Grown W w' v v' → wpList Tryd.prog ops Q rest (a.put o.dst v') w') : wpList Tryd.prog ops Q (o :: rest) a (W.alloc (.cells #[.int .u8 k] T)) :=
  own_append hgd s x ho hO ((Keeps.refl W).alloc (Nat.le_refl _) _) hv _ hx 1 [k] (Src.row Tryd.underlying22 (by simp) (Row.new [.int .u8 k] _ T rfl) (int_oneCell [k])) (by omega) (fun v' w' h1 h2 => h v' w' h1 (h2.keeps ((Keeps.refl W).alloc (Nat.le_refl _) _)))
def slLen : Value → Nat
  | .slice _ n _ => n
  | _ => 0
end Go.Proofs.YthfepfpmkckdnaaDoor
