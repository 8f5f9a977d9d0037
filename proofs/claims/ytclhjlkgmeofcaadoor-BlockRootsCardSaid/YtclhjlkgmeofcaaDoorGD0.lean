/- A slice of transactions, as memory reads it; one of one's own. No condition. | Gates ahead of a walk's arms: each fits one kind of operation by its text alone, so that a law which does not fit fails at once. No condition. -/
import Derived.Test.YtclhjlkgmeofcaaDoorGC9
import Derived.Test.YtclhjlkgmeofcaaDoorGA0
namespace Go.Proofs.YtclhjlkgmeofcaaDoor
set_option linter.unusedVariables false
set_option linter.unusedSimpArgs false
open Go Go.RowKit

def txCells (d : TxD) (iv ov : Value) : List Value := [.int .i32 d.ver, iv, ov, .int .u32 d.lock]
/-- S: the blocks of bytes, T: those of lists of items, R: those of rows -/
structure RTxsC (S T R : Nat → Prop) (w : World) (v : Value) (l : List TxD) (cs : List Value) (ps : List (Value × Value)) : Prop where
  rd : Rd w 4 v l.length cs
  plen : ps.length = l.length
  each : ∀ (i : Nat) (p : Value × Value) (d : TxD), ps[i]? = some p → l[i]? = some d → RTx S T R w p.1 p.2 d ∧ (cs.drop (i * 4)).take 4 = txCells d p.1 p.2
  small : l.length * 64 ≤ 140737488355328
def RTxs (S T R : Nat → Prop) (w : World) (v : Value) (l : List TxD) : Prop := ∃ cs ps, RTxsC S T R w v l cs ps
theorem RTxs.any {S T R : Nat → Prop} {w : World} {v : Value} {l : List TxD} (h : RTxs S T R w v l) : ∃ a cap, v = .slice a l.length cap ∧ l.length ≤ cap ∧ cap ≤ maxLen := by
  obtain ⟨cs, ps, h⟩ := h
  obtain ⟨_, a, cap, h1, h2, h3, _⟩ := h.rd
  exact ⟨a, cap, h1, h2, h3⟩
theorem RTxs.small {S T R : Nat → Prop} {w : World} {v : Value} {l : List TxD} (h : RTxs S T R w v l) : l.length * 64 ≤ 140737488355328 := by
  obtain ⟨_, _, h⟩ := h; exact h.small
theorem RTxs.keeps {S T R : Nat → Prop} {w w' : World} {v : Value} {l : List TxD} (h : RTxs S T R w v l) (hk : Keeps w w') : RTxs S T R w' v l := by
  obtain ⟨cs, ps, h⟩ := h
  exact ⟨cs, ps, h.rd.keeps hk, h.plen, fun i p d a b => ⟨(h.each i p d a b).1.keeps hk, (h.each i p d a b).2⟩, h.small⟩
theorem RTxs.mono {S T R S' T' R' : Nat → Prop} {w : World} {v : Value} {l : List TxD} (h : RTxs S T R w v l) (hs : ∀ g, S g → S' g) (ht : ∀ g, T g → T' g) (hr : ∀ g, R g → R' g) : RTxs S' T' R' w v l := by
  obtain ⟨cs, ps, h⟩ := h
  exact ⟨cs, ps, h.rd, h.plen, fun i p d a b => ⟨(h.each i p d a b).1.mono hs ht hr, (h.each i p d a b).2⟩, h.small⟩
/-- the element's row -/
theorem RTxs.at {S T R : Nat → Prop} {w : World} {a : Option Addr} {n cap : Nat} {l : List TxD} (h : RTxs S T R w (.slice a n cap) l) {i : Nat} (hi : i < l.length) :
    ∃ g off iv ov d, a = some ⟨g, off, none⟩ ∧ g < w.heap.size ∧ l[i]? = some d ∧ Row w g (off + i * 4) (txCells d iv ov) ∧ RTx S T R w iv ov d := by
  obtain ⟨cs, ps, h⟩ := h
  obtain ⟨h0, a', cap', e, h2, h3, h4, h5⟩ := h.rd
  cases e
  have hpl := h.plen
  cases a with
  | none => have := h4 rfl; omega
  | some ad =>
    obtain ⟨g, off, rfl, hg, hr⟩ := h5 _ rfl (by omega)
    have hp : ps[i]? = some (ps[i]'(by omega)) := List.getElem?_eq_getElem (by omega)
    have hd : l[i]? = some (l[i]'hi) := List.getElem?_eq_getElem hi
    obtain ⟨h6, h7⟩ := h.each i _ _ hp hd
    refine ⟨g, off, _, _, _, rfl, hg, hd, ?_, h6⟩
    rw [← h7]
    exact (hr.drop (i * 4)).take 4
theorem RTxs.take {S T R : Nat → Prop} {w : World} {a : Option Addr} {n cap : Nat} {l : List TxD} (h : RTxs S T R w (.slice a n cap) l) (m : Nat) (hm : m ≤ l.length) : RTxs S T R w (.slice a m cap) (l.take m) := by
  obtain ⟨cs, ps, h⟩ := h
  have hl : (l.take m).length = m := by simp; omega
  obtain ⟨h0, a', cap', e, h2, h3, h4, h5⟩ := h.rd
  cases e
  refine ⟨cs.take (m * 4), ps.take m, ⟨by rw [hl]; simp; omega, a, cap, by rw [hl], by omega, h3, fun e => by have := h4 e; omega, fun ad e hn => ?_⟩, by rw [hl]; simp [h.plen]; omega, ?_, by rw [hl]; have := h.small; omega⟩
  · obtain ⟨g, off, e2, hg, hr⟩ := h5 ad e (by omega)
    exact ⟨g, off, e2, hg, hr.take _⟩
  · intro i p d hp hd
    rw [List.getElem?_take] at hp hd
    split at hp
    · rename_i him
      rw [if_pos him] at hd
      obtain ⟨e1, e2⟩ := h.each i p d hp hd
      refine ⟨e1, ?_⟩
      have h3 : (i + 1) * 4 ≤ m * 4 := Nat.mul_le_mul_right _ him
      rw [List.drop_take, List.take_take, Nat.min_eq_left (by omega)]
      exact e2
    · cases hp
/-- the blocks from B on that are there, but for v's own -/
def ButOwn (B : Nat) (W : World) (v : Value) : Nat → Prop := fun g => B ≤ g ∧ g < W.heap.size ∧ v.ownBlock ≠ some g
/-- a list of transactions of one's own: its row may be appended to, its transactions lie elsewhere -/
structure OwnTs (w W : World) (v : Value) (l : List TxD) (cs : List Value) (ps : List (Value × Value)) : Prop where
  keeps : Keeps w W
  buf : Buf W 4 v l.length cs
  new : ∀ g, v.ownBlock = some g → w.heap.size ≤ g
  plen : ps.length = l.length
  each : ∀ (i : Nat) (p : Value × Value) (d : TxD), ps[i]? = some p → l[i]? = some d → RTx (ButOwn w.heap.size W v) (ButOwn w.heap.size W v) (ButOwn w.heap.size W v) W p.1 p.2 d ∧ (cs.drop (i * 4)).take 4 = txCells d p.1 p.2
theorem OwnTs.nil (w : World) : OwnTs w w (.slice none 0 0) [] [] [] := ⟨Keeps.refl _, Buf.nil _ _, fun g h => by simp [Value.ownBlock] at h, rfl, fun i p d h => by simp at h⟩
theorem OwnTs.any {w W : World} {v : Value} {l : List TxD} {cs : List Value} {ps : List (Value × Value)} (h : OwnTs w W v l cs ps) : ∃ a cap, v = .slice a l.length cap := by
  obtain ⟨a, cap, h1, _⟩ := h.buf.any
  exact ⟨a, cap, h1⟩
theorem ButOwn.grow {B : Nat} {W W' : World} {v : Value} (hs : W.heap.size ≤ W'.heap.size) : ∀ g, ButOwn B W v g → ButOwn B W' v g := fun g h => ⟨h.1, Nat.lt_of_lt_of_le h.2.1 hs, h.2.2⟩
theorem OwnTs.step {w W W' : World} {v : Value} {l : List TxD} {cs : List Value} {ps : List (Value × Value)} (h : OwnTs w W v l cs ps) (hk : Keeps W W') : OwnTs w W' v l cs ps :=
  ⟨h.keeps.trans hk, h.buf.keeps hk, h.new, h.plen, fun i p d a b => ⟨((h.each i p d a b).1.keeps hk).mono (ButOwn.grow hk.size) (ButOwn.grow hk.size) (ButOwn.grow hk.size), (h.each i p d a b).2⟩⟩
/-- the blocks from B to E -/
def Btw (B E : Nat) : Nat → Prop := fun g => B ≤ g ∧ g < E
theorem OwnTs.txs {w W : World} {v : Value} {l : List TxD} {cs : List Value} {ps : List (Value × Value)} (h : OwnTs w W v l cs ps) (hs : l.length * 64 ≤ 140737488355328) : RTxs (Btw w.heap.size W.heap.size) (Btw w.heap.size W.heap.size) (Btw w.heap.size W.heap.size) W v l :=
  ⟨cs, ps, h.buf.rd, h.plen, fun i p d a b => ⟨(h.each i p d a b).1.mono (fun _ x => ⟨x.1, x.2.1⟩) (fun _ x => ⟨x.1, x.2.1⟩) (fun _ x => ⟨x.1, x.2.1⟩), (h.each i p d a b).2⟩, hs⟩
theorem RTxs.chg {S T R X : Nat → Prop} {w w' : World} {v : Value} {l : List TxD} (h : RTxs S T R w v l) (hc : Chg X w w') (hv : ∀ g, v.ownBlock = some g → ¬ X g) (hs : ∀ g, S g → ¬ X g) (ht : ∀ g, T g → ¬ X g) (hr : ∀ g, R g → ¬ X g) : RTxs S T R w' v l := by
  obtain ⟨cs, ps, h⟩ := h
  exact ⟨cs, ps, h.rd.chg hc hv, h.plen, fun i p d a b => ⟨(h.each i p d a b).1.chg hc hs ht hr, (h.each i p d a b).2⟩, h.small⟩
theorem tx_info : (Tryd.prog.info? 66).map (fun i => (i.size, i.bytes)) = some (4, 64) := by kernel_rfl
theorem tx_zero : ((Tryd.prog.info? 66).bind (fun i => i.zero.map (·.cells.size))) = some 4 := by kernel_rfl
theorem OwnTs.after {w W W1 w2 : World} {v v' iv ov : Value} {l : List TxD} {cs : List Value} {ps : List (Value × Value)} {d : TxD} {S T : Nat → Prop} (h : OwnTs w W v l cs ps) (hk : Keeps W W1) (hd : OwnTx S T W.heap.size W1 iv ov d)
    (hb : Buf w2 4 v' (l.length + 1) (cs ++ txCells d iv ov)) (hc : Chg (fun k => v.ownBlock = some k) W1 w2) (hs : SameOrNew W1 v v') : OwnTs w w2 v' (l ++ [d]) (cs ++ txCells d iv ov) (ps ++ [(iv, ov)]) := by
  have hk1 := h.keeps.trans hk
  have hcl : cs.length = l.length * 4 := h.buf.1
  have hvl : ∀ g, v.ownBlock = some g → g < W.heap.size := fun g e => h.buf.lt e
  have hw := hk.size
  have hcs := hc.size
  have hnew : ∀ g, ButOwn w.heap.size W1 v g → ButOwn w.heap.size w2 v' g := fun g hg => by
    refine ⟨hg.1, Nat.lt_of_lt_of_le hg.2.1 hcs, ?_⟩
    rcases hs with e | ⟨g', e1, e2⟩
    · rw [e]; exact hg.2.2
    · rw [e1]; intro e; cases e; have := hg.2.1; omega
  have hown : ∀ g, (S g ∨ T g ∨ iv.ownBlock = some g ∨ ov.ownBlock = some g) → ButOwn w.heap.size W1 v g := fun g hg => by
    have := hd.fresh g hg
    have h0 := h.keeps.size
    exact ⟨by omega, this.2, fun e => by have := hvl g e; omega⟩
  refine ⟨Below.trans hk1 (hc.below hk1.size (fun k hk2 e => by have := h.new k e; omega)), by rw [List.length_append]; exact hb, ?_, by simp [h.plen], ?_⟩
  · intro g hg
    rcases hs with e | ⟨g', e1, e2⟩
    · exact h.new g (by rw [← e]; exact hg)
    · rw [hg] at e1; cases e1; exact Nat.le_trans hk1.size e2
  · intro i p x hp hx
    by_cases hi : i < l.length
    · have hip : i < ps.length := by rw [h.plen]; exact hi
      rw [List.getElem?_append_left hip] at hp
      rw [List.getElem?_append_left hi] at hx
      obtain ⟨e1, e2⟩ := h.each i p x hp hx
      refine ⟨(((e1.keeps hk).mono (ButOwn.grow hw) (ButOwn.grow hw) (ButOwn.grow hw)).chg hc (fun g hg e => hg.2.2 e) (fun g hg e => hg.2.2 e) (fun g hg e => hg.2.2 e)).mono hnew hnew hnew, ?_⟩
      rw [← e2, List.drop_append_of_le_length (by omega), List.take_append_of_le_length (by simp; omega)]
    · have hi' : i = l.length := by
        have := (List.getElem?_eq_some_iff.1 hx).1
        simp at this; omega
      subst hi'
      rw [List.getElem?_append_right (by rw [h.plen]; exact Nat.le_refl _), h.plen] at hp
      rw [List.getElem?_append_right (Nat.le_refl _)] at hx
      simp at hp hx
      subst hp hx
      have hrt : RTx (ButOwn w.heap.size W1 v) (ButOwn w.heap.size W1 v) (ButOwn w.heap.size W1 v) W1 iv ov d := ⟨hd.ver, hd.lock, hd.ins.x.mono (fun g hg => hown g (.inl hg)) (fun g hg => hown g (.inr (.inl hg))) (fun g hg => hown g (.inr (.inr (.inl hg)))), hd.outs.mono (fun g hg => hown g (.inl hg)) (fun g hg => hown g (.inr (.inr (.inr hg))))⟩
      refine ⟨(hrt.chg hc (fun g hg e => hg.2.2 e) (fun g hg e => hg.2.2 e) (fun g hg e => hg.2.2 e)).mono hnew hnew hnew, ?_⟩
      rw [List.drop_append, List.drop_eq_nil_of_le (by omega), hcl, Nat.sub_self, List.drop_zero, List.nil_append, List.take_of_length_le]
      exact Nat.le_refl _
end Go.Proofs.YtclhjlkgmeofcaaDoor
namespace Go.Proofs.YtclhjlkgmeofcaaDoor
set_option linter.unusedVariables false
set_option linter.unusedSimpArgs false
open Go Go.RowKit
section
variable {P : Program} {ops : Array Oper} {rest : List Oper} {a : Act} {w : World} {Q : Exit → Act → World → Prop} {d : Option Tmp} {y : TypeId} {p : String} {af : Array Edge} {gd : Option (Nat × Bool)}
theorem gate_load (t : TypeId) (x : Operand) (h : wpList P ops Q (⟨d, .load t x, y, p, af, gd⟩ :: rest) a w) : wpList P ops Q (⟨d, .load t x, y, p, af, gd⟩ :: rest) a w := h
theorem gate_store (t : TypeId) (x z : Operand) (h : wpList P ops Q (⟨d, .store t x z, y, p, af, gd⟩ :: rest) a w) : wpList P ops Q (⟨d, .store t x z, y, p, af, gd⟩ :: rest) a w := h
theorem gate_bin (b : BinOp) (t t' : TypeId) (x z : Operand) (h : wpList P ops Q (⟨d, .binOp b t x z t', y, p, af, gd⟩ :: rest) a w) : wpList P ops Q (⟨d, .binOp b t x z t', y, p, af, gd⟩ :: rest) a w := h
theorem gate_build (t : TypeId) (xs : Array (Nat × Operand)) (h : wpList P ops Q (⟨d, .build t xs, y, p, af, gd⟩ :: rest) a w) : wpList P ops Q (⟨d, .build t xs, y, p, af, gd⟩ :: rest) a w := h
end
end Go.Proofs.YtclhjlkgmeofcaaDoor
