/- What the reference's Few makes of a transaction, in plain Lean; a list written anew up to a place. No condition. | A region that draws its order, whose operations but the last ones (in one forced order) are quiet: the first ones are walked once, in the order of the text; then the last ones as a plain list. (The kit's StillTail, at the class of worlds of its Quiet.) No condition. | Two ways of a condition come together again: what comes behind is walked once. No condition. -/
import Derived.Test.YtcodpdpeklammaaDoorGA8
import Derived.StillTail
import Derived.Deep.QuietTactic
import Derived.BigQuiet
import Derived.Test.YtcodpdpeklammaaDoorGA0
namespace Go.Proofs.YtcodpdpeklammaaDoor
set_option linter.unusedVariables false
set_option linter.unusedSimpArgs false
open Go Go.RowKit

def upto {α : Type} (f : α → α) (i : Nat) (l : List α) : List α := (l.take i).map f ++ l.drop i
theorem upto_zero {α : Type} (f : α → α) (l : List α) : upto f 0 l = l := by simp [upto]
theorem upto_length {α : Type} (f : α → α) (i : Nat) (l : List α) : (upto f i l).length = l.length := by simp [upto]; omega
theorem upto_all {α : Type} (f : α → α) (l : List α) : upto f l.length l = l.map f := by simp [upto]
theorem upto_get {α : Type} (f : α → α) (i : Nat) (l : List α) (x : α) (h : l[i]? = some x) : (upto f i l)[i]? = some x := by
  have hi := (List.getElem?_eq_some_iff.1 h).1
  unfold upto
  rw [List.getElem?_append_right (by simp; omega)]
  simp only [List.length_map, List.length_take, Nat.min_eq_left (Nat.le_of_lt hi), Nat.sub_self, List.getElem?_drop, Nat.add_zero]
  exact h
theorem upto_step {α : Type} (f : α → α) (i : Nat) (l : List α) (x : α) (h : l[i]? = some x) : (upto f i l).set i (f x) = upto f (i + 1) l := by
  have hi := (List.getElem?_eq_some_iff.1 h).1
  unfold upto
  rw [List.set_append_right _ _ (by simp; omega), List.take_add_one, h]
  have e : (l.drop i) = x :: l.drop (i + 1) := by
    rw [List.drop_eq_getElem_cons hi]
    congr 1
    exact (List.getElem?_eq_some_iff.1 h).2
  rw [e]
  simp [Nat.min_eq_left (Nat.le_of_lt hi)]
theorem set_self {α : Type} (l : List α) (i : Nat) (x : α) (h : l[i]? = some x) : l.set i x = l := by
  obtain ⟨hi, e⟩ := List.getElem?_eq_some_iff.1 h
  apply List.ext_getElem?
  intro j
  by_cases hj : i = j
  · subst hj; rw [List.getElem?_set_self hi, h]
  · rw [List.getElem?_set_ne hj]
theorem upto_skip {α : Type} (f : α → α) (i : Nat) (l : List α) (x : α) (h : l[i]? = some x) (hf : f x = x) : upto f (i + 1) l = upto f i l := by
  rw [← upto_step f i l x h, hf]; exact set_self _ i x (upto_get f i l x h)
theorem at_free {w : World} {b o : Nat} {d : InD} {sv wv : Value} (h : Row w b o (inCells d sv wv)) (hl : d.hash.length = 32) :
    w.frozen? ⟨b, o + 33, none⟩ = false ∧ w.frozen? ⟨b, o + 35, none⟩ = false ∧ w.frozen? ⟨b, o + 34, none⟩ = false := by
  refine ⟨(h 33 sv ?_).2, (h 35 wv ?_).2, (h 34 (.int .u32 d.seq) ?_).2⟩ <;> (unfold inCells; rw [List.getElem?_append_right (by simp [hl])]; simp [hl])
def trimIn (n b : Nat) (d : InD) : InD := { d with script := d.script.take b, wit := (d.wit.take n).map (List.take b) }
def trimOut (b : Nat) (d : OutD) : OutD := { d with script := d.script.take b }
def fewD (n b : Nat) (d : TxD) : TxD := { d with ins := (d.ins.take n).map (trimIn n b), outs := (d.outs.take n).map (trimOut b) }
theorem OwnTx.at {S T : Nat → Prop} {base : Nat} {W : World} {a : Option Addr} {n cap : Nat} {ov : Value} {d : TxD} (h : OwnTx S T base W (.slice a n cap) ov d) {i : Nat} {di : InD} (hd : d.ins[i]? = some di) :
    ∃ g off sv wv, a = some ⟨g, off, none⟩ ∧ g < W.heap.size ∧ Row W g (off + i * 36) (inCells di sv wv) ∧ RIn S T W sv wv di := by
  have hil := (List.getElem?_eq_some_iff.1 hd).1
  obtain ⟨g, off, sv, wv, d', h1, h2, h3, h4, h5⟩ := h.ins.x.at i hil
  rw [hd] at h3
  cases h3
  exact ⟨g, off, sv, wv, h1, h2, h4, h5⟩
theorem OwnTx.atOut {S T : Nat → Prop} {base : Nat} {W : World} {a : Option Addr} {n cap : Nat} {iv : Value} {d : TxD} (h : OwnTx S T base W iv (.slice a n cap) d) {i : Nat} {di : OutD} (hd : d.outs[i]? = some di) :
    ∃ g off sv, a = some ⟨g, off, none⟩ ∧ g < W.heap.size ∧ Row W g (off + i * 2) (outCells di sv) ∧ RB S W sv di.script ∧ I64 di.value := by
  have hil := (List.getElem?_eq_some_iff.1 hd).1
  obtain ⟨g, off, sv, d', h1, h2, h3, h4, h5⟩ := h.outs.at i hil
  rw [hd] at h3
  cases h3
  exact ⟨g, off, sv, h1, h2, h4, h5⟩
theorem RL.foot' {S T : Nat → Prop} {w : World} {v : Value} {ls : List (List Int)} (h : RLL S T w v ls) : ∀ g, v.ownBlock = some g → T g := h.foot
theorem RLL.take {S T : Nat → Prop} {w : World} {a : Option Addr} {n cap : Nat} {ls : List (List Int)} (h : RLL S T w (.slice a n cap) ls) (m : Nat) (hm : m ≤ ls.length) : RLL S T w (.slice a m cap) (ls.take m) := by
  obtain ⟨vs, hrd, he, hs, hf⟩ := h
  obtain ⟨h0, a', cap', e, h2, h3, h4, h5⟩ := hrd
  cases e
  have hl : (ls.take m).length = m := by simp; omega
  refine ⟨vs.take m, ⟨by simp; omega, a, cap, by rw [hl], by omega, h3, fun e => by have := h4 e; omega, fun ad e hn => ?_⟩, fun i u l hu hl' => ?_, by omega, fun g e => hf g (by cases a with | none => simp [Value.ownBlock] at e | some _ => simpa [Value.ownBlock] using e)⟩
  · obtain ⟨g, off, e2, hg, hr⟩ := h5 ad e (by omega)
    exact ⟨g, off, e2, hg, hr.take _⟩
  · rw [List.getElem?_take] at hu hl'
    split at hu
    · rename_i him
      rw [if_pos him] at hl'
      exact he i u l hu hl'
    · cases hu
/-- where Few stands: the box at p holds the transaction of one's own -/
structure FewSt (S T : Nat → Prop) (base : Nat) (w W : World) (p : Nat) (iv ov : Value) (d : TxD) : Prop where
  keeps : Keeps w W
  row : Row W p 0 [.int .i32 d.ver, iv, ov, .int .u32 d.lock]
  own : OwnTx S T base W iv ov d
  low : w.heap.size ≤ p ∧ p < base
theorem FewSt.drewN {S T : Nat → Prop} {base : Nat} {w W : World} {p : Nat} {iv ov : Value} {d : TxD} (h : FewSt S T base w W p iv ov d) (n : Nat) : FewSt S T base w (W.drewN n) p iv ov d :=
  ⟨h.keeps.trans (Qt.drewN W n).keeps, h.row, h.own.keeps (Qt.drewN W n).keeps, h.low⟩
/-- a store into a block of the transaction's own -/
theorem FewSt.put {S T : Nat → Prop} {base : Nat} {w W : World} {p : Nat} {iv ov : Value} {d d' : TxD} (h : FewSt S T base w W p iv ov d) (g o : Nat) (u : Value) (hg : base ≤ g) (h' : OwnTx S T base (W.setCell ⟨g, o, none⟩ u) iv ov d') (e1 : d'.ver = d.ver) (e2 : d'.lock = d.lock) : FewSt S T base w (W.setCell ⟨g, o, none⟩ u) p iv ov d' :=
  ⟨keeps_chg h.keeps (Chg.cell g o u) (by have := h.low; omega), by rw [e1, e2]; exact h.row.other (by have := h.low; show p ≠ g; omega) u, h', h.low⟩
theorem FewSt.box1 {S T : Nat → Prop} {base : Nat} {w W : World} {p : Nat} {iv ov iv' : Value} {d d' : TxD} (h : FewSt S T base w W p iv ov d) (h' : OwnTx S T base W iv' ov d') (e1 : d'.ver = d.ver) (e2 : d'.lock = d.lock) : FewSt S T base w (W.setCell ⟨p, 1, none⟩ iv') p iv' ov d' :=
  ⟨keeps_chg h.keeps (Chg.cell p 1 iv') h.low.1, by have := h.row.set 1 (by simp) iv'; rw [e1, e2]; simpa using this, h'.chg (Chg.cell p 1 iv') (fun g e => .inl (by have := h.low; omega)), h.low⟩
theorem FewSt.box2 {S T : Nat → Prop} {base : Nat} {w W : World} {p : Nat} {iv ov ov' : Value} {d d' : TxD} (h : FewSt S T base w W p iv ov d) (h' : OwnTx S T base W iv ov' d') (e1 : d'.ver = d.ver) (e2 : d'.lock = d.lock) : FewSt S T base w (W.setCell ⟨p, 2, none⟩ ov') p iv ov' d' :=
  ⟨keeps_chg h.keeps (Chg.cell p 2 ov') h.low.1, by have := h.row.set 2 (by simp) ov'; rw [e1, e2]; simpa using this, h'.chg (Chg.cell p 2 ov') (fun g e => .inl (by have := h.low; omega)), h.low⟩
theorem FewSt.cells {S T : Nat → Prop} {base : Nat} {w W : World} {p : Nat} {iv ov : Value} {d : TxD} (h : FewSt S T base w W p iv ov d) : W.cell? ⟨p, 0, none⟩ = some (.int .i32 d.ver) ∧ W.cell? ⟨p, 1, none⟩ = some iv ∧ W.cell? ⟨p, 2, none⟩ = some ov ∧ W.cell? ⟨p, 3, none⟩ = some (.int .u32 d.lock) := h.row.cell4
theorem FewSt.free {S T : Nat → Prop} {base : Nat} {w W : World} {p : Nat} {iv ov : Value} {d : TxD} (h : FewSt S T base w W p iv ov d) : W.frozen? ⟨p, 1, none⟩ = false ∧ W.frozen? ⟨p, 2, none⟩ = false := by
  refine ⟨?_, ?_⟩
  · have := (h.row 1 _ rfl).2; simpa using this
  · have := (h.row 2 _ rfl).2; simpa using this
theorem FewSt.same {S T : Nat → Prop} {base : Nat} {w W : World} {p : Nat} {iv ov iv' ov' : Value} {d d' : TxD} (h : FewSt S T base w W p iv ov d) (e1 : iv = iv') (e2 : ov = ov') (e3 : d = d') : FewSt S T base w W p iv' ov' d' := by subst e1 e2 e3; exact h
theorem FewSt.at {S T : Nat → Prop} {base : Nat} {w W : World} {p g off n cap : Nat} {ov : Value} {d : TxD} (h : FewSt S T base w W p (.slice (some ⟨g, off, none⟩) n cap) ov d) : base ≤ g := (h.own.fresh g (.inr (.inr (.inl rfl)))).1
theorem FewSt.cutScript {S T : Nat → Prop} {base : Nat} {w W : World} {p g off n cap : Nat} {ov : Value} {d : TxD} (h : FewSt S T base w W p (.slice (some ⟨g, off, none⟩) n cap) ov d) {i : Nat} {di : InD} {a : Option Addr} {m c : Nat} {wv : Value} (hd : d.ins[i]? = some di) (hrow : Row W g (off + i * 36) (inCells di (.slice a m c) wv)) (hr : RIn S T W (.slice a m c) wv di) (k : Nat) (hk : k ≤ di.script.length) (nq : Nat) :
    FewSt S T base w ((W.drewN nq).setCell ⟨g, off + i * 36 + 33, none⟩ (.slice a k c)) p (.slice (some ⟨g, off, none⟩) n cap) ov { d with ins := d.ins.set i { di with script := di.script.take k } } := by
  have hr' := hr.keeps (Qt.drewN W nq).keeps
  exact (h.drewN nq).put g _ _ h.at ((h.drewN nq).own.putIn hd (hrow.drewN nq) 33 _ { di with script := di.script.take k } (.slice a k c) wv (by omega) (inCells_set33 _ _ _ _ _ hr.ok.hashLen) ⟨⟨hr.ok.hashLen, hr.ok.hash, hr.ok.index, hr.ok.seq⟩, hr'.script.take k hk, hr'.wit⟩ (.inl rfl)) rfl rfl
theorem FewSt.cutWit {S T : Nat → Prop} {base : Nat} {w W : World} {p g off n cap : Nat} {ov : Value} {d : TxD} (h : FewSt S T base w W p (.slice (some ⟨g, off, none⟩) n cap) ov d) {i : Nat} {di : InD} {a : Option Addr} {m c : Nat} {sv : Value} (hd : d.ins[i]? = some di) (hrow : Row W g (off + i * 36) (inCells di sv (.slice a m c))) (hr : RIn S T W sv (.slice a m c) di) (k : Nat) (hk : k ≤ di.wit.length) (nq : Nat) :
    FewSt S T base w ((W.drewN nq).setCell ⟨g, off + i * 36 + 35, none⟩ (.slice a k c)) p (.slice (some ⟨g, off, none⟩) n cap) ov { d with ins := d.ins.set i { di with wit := di.wit.take k } } := by
  have hr' := hr.keeps (Qt.drewN W nq).keeps
  exact (h.drewN nq).put g _ _ h.at ((h.drewN nq).own.putIn hd (hrow.drewN nq) 35 _ { di with wit := di.wit.take k } sv (.slice a k c) (by omega) (inCells_set35 _ _ _ _ _ hr.ok.hashLen) ⟨⟨hr.ok.hashLen, hr.ok.hash, hr.ok.index, hr.ok.seq⟩, hr'.script, hr'.wit.take k hk⟩ (.inl (by cases a <;> rfl))) rfl rfl
theorem FewSt.cutItem {S T : Nat → Prop} {base : Nat} {w W : World} {p g off n cap gw ow m c : Nat} {ov : Value} {d : TxD} (h : FewSt S T base w W p (.slice (some ⟨g, off, none⟩) n cap) ov d) {i : Nat} {di : InD} {sv : Value} (hd : d.ins[i]? = some di) (hrow : Row W g (off + i * 36) (inCells di sv (.slice (some ⟨gw, ow, none⟩) m c))) (hr : RIn S T W sv (.slice (some ⟨gw, ow, none⟩) m c) di)
    (j : Nat) (hj : j < di.wit.length) (a : Option Addr) (x y : Nat) (l : List Int) (hu : RB S W (.slice a x y) l) (k : Nat) (hk : k ≤ l.length) (nq : Nat) :
    FewSt S T base w ((W.drewN nq).setCell ⟨gw, ow + j, none⟩ (.slice a k y)) p (.slice (some ⟨g, off, none⟩) n cap) ov { d with ins := d.ins.set i { di with wit := di.wit.set j (l.take k) } } := by
  have hr' := hr.keeps (Qt.drewN W nq).keeps
  have hu' := hu.keeps (Qt.drewN W nq).keeps
  exact (h.drewN nq).put gw _ _ (h.own.fresh gw (.inr (.inl (hr.wit.foot gw rfl)))).1 ((h.drewN nq).own.putItem hd (hrow.drewN nq) hr' j hj _ (l.take k) (hu'.take k hk)) rfl rfl
theorem FewSt.cutOut {S T : Nat → Prop} {base : Nat} {w W : World} {p g off n cap : Nat} {iv : Value} {d : TxD} (h : FewSt S T base w W p iv (.slice (some ⟨g, off, none⟩) n cap) d) {i : Nat} {di : OutD} {a : Option Addr} {m c : Nat} (hd : d.outs[i]? = some di) (hrow : Row W g (off + i * 2) (outCells di (.slice a m c))) (hr : RB S W (.slice a m c) di.script) (hv : I64 di.value) (k : Nat) (hk : k ≤ di.script.length) (nq : Nat) :
    FewSt S T base w ((W.drewN nq).setCell ⟨g, off + i * 2 + 1, none⟩ (.slice a k c)) p iv (.slice (some ⟨g, off, none⟩) n cap) { d with outs := d.outs.set i { di with script := di.script.take k } } := by
  have hr' := hr.keeps (Qt.drewN W nq).keeps
  exact (h.drewN nq).put g _ _ (h.own.fresh g (.inr (.inr (.inr rfl)))).1 ((h.drewN nq).own.putOut hd (hrow.drewN nq) 1 _ { di with script := di.script.take k } (.slice a k c) (by omega) rfl (hr'.take k hk) hv) rfl rfl
/-- blocks of the transaction's own are not the box, nor what lies below -/
theorem FewSt.apart {S T : Nat → Prop} {base : Nat} {w W : World} {p g o q : Nat} {u : Value} {vs : List Value} (hg : base ≤ g) (hq : q < base) (nq : Nat) (h : Row W q 0 vs) : Row ((W.drewN nq).setCell ⟨g, o, none⟩ u) q 0 vs := (h.drewN nq).other (by show q ≠ g; omega) u
theorem OwnTx.same {S T : Nat → Prop} {base : Nat} {W : World} {iv ov : Value} {d d' : TxD} (h : OwnTx S T base W iv ov d) (e : d = d') : OwnTx S T base W iv ov d' := by subst e; exact h
end Go.Proofs.YtcodpdpeklammaaDoor
namespace Go.Proofs.YtcodpdpeklammaaDoor
set_option linter.unusedVariables false
set_option linter.unusedSimpArgs false
open Go
section
variable {P : Program} {ops : Array Oper} {md : Region.Mode} {C : World → Prop}
def wpAnyQL (P : Program) (md : Region.Mode) (ops : Array Oper) (C : World → Prop) (n : Nat) (L : Array Bool → Act → Prop) : Nat → Array Bool → Act → Prop
  | 0, listed, a => L listed a
  | f + 1, listed, a =>
    Region.ready md ops listed ≠ [] ∧ ∀ i ∈ Region.ready md ops listed, i < n ∧ qOp P ops C i (wpAnyQL P md ops C n L f (listed.setIfInBounds i true)) a
theorem wpAny_of_qhead {n g : Nat} {L : Array Bool → Act → Prop} {Q' : Exit → Act → World → Prop} (hL : ∀ listed a w, C w → L listed a → wpAny P md ops Q' g listed a w) :
    ∀ (f : Nat) (listed : Array Bool) (a : Act) (w : World), C w → wpAnyQL P md ops C n L f listed a → wpAny P md ops Q' (f + g) listed a w
  | 0, listed, a, w, hw, h => by rw [Nat.zero_add]; exact hL _ _ _ hw h
  | f + 1, listed, a, w, hw, h => by
    rw [show f + 1 + g = (f + g) + 1 by omega]
    exact ⟨fun h0 => absurd h0 h.1, fun i hi => wpOp_of_qOp hw (fun a' w' hw' h' => wpAny_of_qhead hL f _ a' w' hw' h') (h.2 i hi).2⟩
theorem wpAnyQL_first {n i : Nat} {oi : Oper} {v : Value} {L : Array Bool → Act → Prop} (hi : ops[i]? = some oi) (hsel : ∀ (j : Nat) (o : Oper) cs b, ops[j]? = some o → o.op ≠ .select cs b)
    (hs : Region.sinkB md ops n = true) (hc : Region.chainB md ops n = true) (hn : n < ops.size) (hin : i < n)
    (hdone : ∀ listed a, L listed a → ∀ j ∈ Region.ready md ops listed, n ≤ j) :
    ∀ (f : Nat) (listed : Array Bool) (a : Act), HeadInv md ops n listed →
      (∀ j oj, ops[j]? = some oj → j ≠ i → listed.getD j true = false → (∀ e ∈ oj.after, Region.binds md e = true → e.on ≠ i) → oi.apart ops oj = true) →
      i ∈ Region.ready md ops listed → YieldsIn P ops C oi v a →
      wpAnyQL P md ops C n L f (listed.setIfInBounds i true) (a.put oi.dst v) → wpAnyQL P md ops C n L (f + 1) listed a := by
  intro f
  induction f with
  | zero =>
    intro listed a inv _ hr hy H
    have hun := (mem_ready.1 hr).1
    refine ⟨fun h => (by rw [h] at hr; cases hr), fun j hj => ?_⟩
    have hjn : j < n := by
      rcases Nat.lt_or_ge j n with h | h
      · exact h
      · exact absurd hj (tail_waits hs hc hn inv _ i rfl hin hun j h)
    refine ⟨hjn, ?_⟩
    by_cases hji : j = i
    · subst hji; exact hy.qOp hi H
    · have := hdone _ _ H j (ready_mono hj hji)
      omega
  | succ f ih =>
    intro listed a inv hfree hr hy H
    have hun := (mem_ready.1 hr).1
    refine ⟨fun h => (by rw [h] at hr; cases hr), fun j hj => ?_⟩
    have hjn : j < n := by
      rcases Nat.lt_or_ge j n with h | h
      · exact h
      · exact absurd hj (tail_waits hs hc hn inv _ i rfl hin hun j h)
    refine ⟨hjn, ?_⟩
    by_cases hji : j = i
    · subst hji; exact hy.qOp hi H
    · have h1 := (H.2 j (ready_mono hj hji)).2
      obtain ⟨hjun, oj, hoj, hall⟩ := mem_ready.1 hj
      have hnot : ∀ e ∈ oj.after, Region.binds md e = true → e.on ≠ i := fun e he hb heq => by
        have h1 := hall e he hb
        rw [heq, getD_both hun] at h1
        cases h1
      have h2 := qOp_put hoj (hfree j oj hoj hji hjun hnot) (fun cs b => hsel i oi cs b hi) (fun cs b => hsel j oj cs b hoj) hy h1
      have hfree' : ∀ k ok, ops[k]? = some ok → k ≠ i → (listed.setIfInBounds j true).getD k true = false →
          (∀ e ∈ ok.after, Region.binds md e = true → e.on ≠ i) → oi.apart ops ok = true := fun k ok hk hki hun hno => by
        refine hfree k ok hk hki ?_ hno
        by_cases hjk : j = k
        · subst hjk; exact hjun
        · rw [getD_set_ne true hjk] at hun; exact hun
      refine qOp_mono (fun a' h3 => ih (listed.setIfInBounds j true) a' (inv.set hj hjn) hfree' (ready_mono hr (Ne.symm hji)) h3.1 ?_) h2
      rw [Array.setIfInBounds_comm _ _ hji]
      exact h3.2
theorem wpAnyQL_lex {n g : Nat} {Lq : Act → Prop} (hsel : Region.noSelect ops = true) (hs : Region.sinkB md ops n = true) (hc : Region.chainB md ops n = true) (hn : n < ops.size) :
    ∀ (l : List Oper) (k : Nat) (listed : Array Bool) (a : Act), (∀ j, j < l.length → l[j]? = ops[k + j]?) → k + l.length = n → HeadInv md ops n listed →
    Region.lexHead md ops g l.length k listed = true → wpQuiet P ops C Lq l a →
    wpAnyQL P md ops C n (fun listed' a' => Region.seqB md ops g n listed' = true ∧ Lq a') l.length listed a
  | [], k, listed, a, _, hk, _, hB, h => by
    have : k = n := by simpa using hk
    subst this
    exact ⟨by simpa [Region.lexHead] using hB, h⟩
  | o :: l, k, listed, a, hl, hk, inv, hB, h => by
    have h0 : ops[k]? = some o := by simpa using (hl 0 (by simp)).symm
    simp only [List.length_cons, Region.lexHead, Bool.and_eq_true] at hB
    obtain ⟨⟨hr, hf⟩, hB'⟩ := hB
    have hkn : k < n := by simp only [List.length_cons] at hk; omega
    have hr' : k ∈ Region.ready md ops listed := by simpa using hr
    have hst : qOp P ops C k (wpQuiet P ops C Lq l) a := by unfold qOp; simp only [h0]; exact h
    obtain ⟨v, hy, hK⟩ := yieldsIn_of_qOp h0 hst
    exact wpAnyQL_first h0 (Region.noSelect_spec hsel) hs hc hn hkn (fun listed' a' hL => seqB_ready hL.1) l.length listed a inv (Region.free_spec h0 hf) hr' hy
      (wpAnyQL_lex hsel hs hc hn l (k + 1) _ _ (fun j hj => by have := hl (j + 1) (by simp; omega); simpa [Nat.add_assoc, Nat.add_comm 1 j] using this) (by simp only [List.length_cons] at hk; omega) (inv.set hr' hkn) hB' hK)
theorem wp_region_quiet_tail {id : Nat} {Q : Exit → Act → World → Prop} {a : Act} {w : World} {l : List Oper} (n : Nat) (hm : P.follows .mixedOrders = true) (hB : Region.lexTailB .any l.toArray n = true)
    (h : wpQuiet P l.toArray (fun w' => ∃ m, w' = w.drewN m) (fun a' => ∀ w', (∃ m, w' = w.drewN m) → wpList P l.toArray Q (l.drop n) a' w') (l.take n) a) : (Code.region id l.toArray true).wp P Q a w := by
  simp only [Region.lexTailB, Bool.and_eq_true, decide_eq_true_eq] at hB
  obtain ⟨⟨⟨⟨hsel, hn⟩, hs⟩, hc⟩, hlex⟩ := hB
  have hn' : n < l.length := by simpa using hn
  have htl : (l.take n).length = n := by simp; omega
  have hdl : (l.drop n).length = l.toArray.size - n := by simp
  have inv0 : HeadInv .any l.toArray n (Array.replicate l.toArray.size false) :=
    ⟨by simp, fun j oj _ hl => (by rw [getD_replicate_false] at hl; cases hl), fun t _ ht => getD_in (by simpa using ht) (getD_replicate_false _ _)⟩
  have H := wpAnyQL_lex (md := .any) (g := l.toArray.size - n) hsel hs hc hn (l.take n) 0 _ a (fun j hj => by
    have hj' : j < n := by rw [htl] at hj; exact hj
    simp [hj']) (by simpa using htl) inv0 (by rw [htl]; exact hlex) h
  refine wp_region_any hm ?_
  have := wpAny_of_qhead (Q' := Q) (g := l.toArray.size - n) (fun listed a' w' hw' hL => by
    have := wpAny_of_seq (md := .any) (Q' := Q) (l.drop n) n listed a' w' (fun j => by simp [List.getElem?_drop]) (by rw [hdl]; exact hL.1) (hL.2 w' hw')
    rwa [hdl] at this) _ _ _ { w with drawn := w.drawn + 1 } ⟨1, rfl⟩ H
  rw [htl, show n + (l.toArray.size - n) = l.toArray.size by omega] at this
  exact this
end
end Go.Proofs.YtcodpdpeklammaaDoor
namespace Go.Proofs.YtcodpdpeklammaaDoor
set_option linter.unusedVariables false
set_option linter.unusedSimpArgs false
open Go Go.RowKit
def putAll (a : Act) : List Nat → List Value → Act
  | t :: ts, u :: us => putAll (a.put (some t) u) ts us
  | _, _ => a
theorem wp_join {P : Program} {c rest : Code} {Q Q0 : Exit → Act → World → Prop} {K1 : Act → World → Prop} {a : Act} {w : World} (ts : List Nat) (J : World → Prop) (hK1 : ∀ a w, Code.wp P rest Q a w → K1 a w)
    (h2 : (∀ us w', us.length = ts.length → J w' → K1 (putAll a ts us) w') → Code.wp P c Q0 a w) (h1 : ∀ us w', us.length = ts.length → J w' → Code.wp P rest Q (putAll a ts us) w') : Code.wp P c Q0 a w :=
  h2 (fun us w' hl hj => hK1 _ _ (h1 us w' hl hj))
end Go.Proofs.YtcodpdpeklammaaDoor
