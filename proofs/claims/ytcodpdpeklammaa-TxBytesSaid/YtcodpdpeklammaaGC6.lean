/- Lists of one's own, appended to where meanwhile blocks below 'base' may have changed. (Printed by growd.py.) -/
import Derived.Test.YtcodpdpeklammaaGA8
import Derived.Test.YtcodpdpeklammaaGA7
namespace Go.Proofs.Ytcodpdpeklammaa
set_option linter.unusedVariables false
set_option linter.unusedSimpArgs false
open Go Go.RowKit
theorem OwnI.after2 {S T S1 T1 : Nat → Prop} {X : Nat → Prop} {base : Nat} {W W1 w2 : World} {v v' sv wv : Value} {l : List InD} {cs : List Value} {ps : List (Value × Value)} {d : InD} (h : OwnI S T base W v l cs ps) (hb0 : base ≤ W.heap.size) (hk : Chg X W W1) (hx : ∀ k, X k → k < base ∨ W.heap.size ≤ k)
    (hd : RIn S1 T1 W1 sv wv d) (h1 : ∀ g, S1 g ∨ T1 g → W.heap.size ≤ g ∧ g < W1.heap.size) (hdj : ∀ g, S1 g → ¬ T1 g)
    (hb : Buf w2 36 v' (l.length + 1) (cs ++ inCells d sv wv)) (hc : Chg (fun k => v.ownBlock = some k) W1 w2) (hs : SameOrNew W1 v v') :
    OwnI (fun g => S g ∨ S1 g) (fun g => T g ∨ T1 g) base w2 v' (l ++ [d]) (cs ++ inCells d sv wv) (ps ++ [(sv, wv)]) := by
  have hw := hk.size
  have hvl : ∀ g, v.ownBlock = some g → g < W.heap.size := fun g e => h.buf.lt e
  have hv' : ∀ g, g < W1.heap.size → v.ownBlock ≠ some g → v'.ownBlock ≠ some g := fun g h1 h2 => by
    rcases hs with e | ⟨g', e1, e2⟩
    · rw [e]; exact h2
    · rw [e1]; intro e; cases e; omega
  have hcl : cs.length = l.length * 36 := h.buf.1
  refine ⟨by rw [List.length_append]; exact hb, ?_, by simp [h.plen], ?_, ?_, ?_, ?_, ?_⟩
  · intro g hg
    rcases hs with e | ⟨g', e1, e2⟩
    · exact h.new g (by rw [← e]; exact hg)
    · rw [hg] at e1; cases e1; omega
  · intro i p d' hp hd'
    by_cases hi : i < l.length
    · have hip : i < ps.length := by rw [h.plen]; exact hi
      rw [List.getElem?_append_left hip] at hp
      rw [List.getElem?_append_left hi] at hd'
      obtain ⟨e1, e2⟩ := h.each i p d' hp hd'
      refine ⟨((e1.chg hk (fun k hk' hxk => by have := h.fresh k (.inl hk'); have := hx k hxk; omega) (fun k hk' hxk => by have := h.fresh k (.inr hk'); have := hx k hxk; omega)).chg hc (fun g hg e => (h.fresh g (.inl hg)).2.2 e) (fun g hg e => (h.fresh g (.inr hg)).2.2 e)).mono (fun _ => .inl) (fun _ => .inl), ?_⟩
      rw [← e2, List.drop_append_of_le_length (by omega), List.take_append_of_le_length (by simp; omega)]
    · have hi' : i = l.length := by
        have := (List.getElem?_eq_some_iff.1 hd').1
        simp at this; omega
      subst hi'
      rw [List.getElem?_append_right (by rw [h.plen]; exact Nat.le_refl _), h.plen] at hp
      rw [List.getElem?_append_right (Nat.le_refl _)] at hd'
      simp at hp hd'
      subst hp hd'
      refine ⟨(hd.chg hc (fun g hg e => by have h2 := h1 g (.inl hg); have := hvl g e; omega) (fun g hg e => by have h2 := h1 g (.inr hg); have := hvl g e; omega)).mono (fun _ => .inr) (fun _ => .inr), ?_⟩
      rw [List.drop_append, List.drop_eq_nil_of_le (by omega), hcl, Nat.sub_self, List.drop_zero, List.nil_append, List.take_of_length_le]
      rw [inCells_length _ _ _ hd.ok.hashLen]; exact Nat.le_refl _
  · intro g hg
    have hcs := hc.size
    rcases hg with (hg | hg) | (hg | hg)
    · have h2 := h.fresh g (.inl hg); exact ⟨h2.1, by omega, hv' g (by omega) h2.2.2⟩
    · have h2 := h1 g (.inl hg); exact ⟨by omega, by omega, hv' g h2.2 (fun e => by have := hvl g e; omega)⟩
    · have h2 := h.fresh g (.inr hg); exact ⟨h2.1, by omega, hv' g (by omega) h2.2.2⟩
    · have h2 := h1 g (.inr hg); exact ⟨by omega, by omega, hv' g h2.2 (fun e => by have := hvl g e; omega)⟩
  · intro g hg ht
    rcases hg with hg | hg <;> rcases ht with ht | ht
    · exact h.disj g hg ht
    · have h2 := h.fresh g (.inl hg); have h3 := h1 g (.inr ht); omega
    · have h2 := h.fresh g (.inr ht); have h3 := h1 g (.inl hg); omega
    · exact hdj g hg ht
  · intro u hu
    rcases List.mem_append.1 hu with hu | hu
    · exact h.one u hu
    · exact inCells_one d sv wv hd.script.one hd.wit.one u hu
  · have old : ∀ (i : Nat) (p : Value × Value), ps[i]? = some p → ∀ g, p.2.ownBlock = some g → g < W.heap.size := fun i p hp g e => by
      have hi : i < l.length := by rw [← h.plen]; exact (List.getElem?_eq_some_iff.1 hp).1
      exact (h.fresh g (.inr ((h.each i p l[i] hp (List.getElem?_eq_getElem hi)).1.wit.foot g e))).2.1
    have new : ∀ g, wv.ownBlock = some g → W.heap.size ≤ g := fun g e => (h1 g (.inr (hd.wit.foot g e))).1
    intro i k p q hik hp hq g e e2
    have cases2 : ∀ (m : Nat) (x : Value × Value), (ps ++ [(sv, wv)])[m]? = some x → (m < ps.length ∧ ps[m]? = some x) ∨ (m = ps.length ∧ x = (sv, wv)) := fun m x hx => by
      by_cases hm : m < ps.length
      · rw [List.getElem?_append_left hm] at hx; exact .inl ⟨hm, hx⟩
      · have hm2 := (List.getElem?_eq_some_iff.1 hx).1
        simp at hm2
        obtain rfl : m = ps.length := by omega
        rw [List.getElem?_append_right (Nat.le_refl _)] at hx
        simp at hx
        exact .inr ⟨rfl, hx.symm⟩
    rcases cases2 i p hp with ⟨_, a1⟩ | ⟨a0, rfl⟩ <;> rcases cases2 k q hq with ⟨_, b1⟩ | ⟨b0, rfl⟩
    · exact h.apart i k p q hik a1 b1 g e e2
    · have h3 := old i p a1 g e; have h4 := new g e2; omega
    · have h3 := old k q b1 g e2; have h4 := new g e; omega
    · omega
theorem owni_append2 {S T S1 T1 : Nat → Prop} {X : Nat → Prop} {base : Nat} {W W1 : World} {ops : Array Oper} {rest : List Oper} {o : Oper} {a : Act} {Q : Exit → Act → World → Prop} (hgd : o.guard = none) (s x : Operand)
    (ho : o.op = .call { callee := .builtin .append, args := #[s, x], argTypes := #[22, 22] }) {v sv wv : Value} {l : List InD} {cs : List Value} {ps : List (Value × Value)} {d : InD} (hO : OwnI S T base W v l cs ps) (hb0 : base ≤ W.heap.size) (hk : Chg X W W1) (hxb : ∀ k, X k → k < base ∨ W.heap.size ≤ k)
    (hd : RIn S1 T1 W1 sv wv d) (h1 : ∀ g, S1 g ∨ T1 g → W.heap.size ≤ g ∧ g < W1.heap.size) (hdj : ∀ g, S1 g → ¬ T1 g) (hv : a.eval s = v)
    (c : Nat) (TT : TypeId) (cells : Array Value) (hcells : cells = (inCells d sv wv).toArray) (hx : a.eval x = .slice (some ⟨W1.heap.size, 0, none⟩) 1 c) (hn : (l.length + 1) * 96 ≤ 140737488355328)
    (h : ∀ v' w', OwnI (fun g => S g ∨ S1 g) (fun g => T g ∨ T1 g) base w' v' (l ++ [d]) (cs ++ inCells d sv wv) (ps ++ [(sv, wv)]) → Chg (fun k => v.ownBlock = some k) (W1.alloc (.cells cells TT)) w' → SameOrNew (W1.alloc (.cells cells TT)) v v' → wpList Try.prog ops Q rest (a.put o.dst v') w') : wpList Try.prog ops Q (o :: rest) a (W1.alloc (.cells cells TT)) := by
  subst hcells
  obtain ⟨i0, z0, hi, hz0, hz1, hz2, hz3⟩ := info2_any in_info in_zero
  have hk2 : Keeps W1 (W1.alloc (.cells (inCells d sv wv).toArray TT)) := keeps_alloc (Keeps.refl _) _
  have hlen := inCells_length d sv wv hd.ok.hashLen
  refine wpList_append_buf hgd s x 22 22 ho 45 i0 z0 36 96 Try.underlying22 hi hz0 hz1 hz2 hz3 (by decide) v l.length cs hv (hO.buf.chg (hk.trans (hk2.chg _)) (fun k e hxk => by have := hO.new k e; have := hO.buf.lt e; have := hxb k hxk; omega)) _ hx 1 (inCells d sv wv)
    (Src.row Try.underlying22 (by rw [hlen]) (Row.new (inCells d sv wv) _ TT rfl) (inCells_one d sv wv hd.script.one hd.wit.one)) (by unfold maxLen; omega) hn
    (fun v' w' hb hc hs' _ => h v' w' (hO.after2 hb0 (hk.trans (hk2.chg _)) hxb (hd.keeps hk2) (fun g hg => ⟨(h1 g hg).1, Nat.lt_of_lt_of_le (h1 g hg).2 hk2.size⟩) hdj hb hc hs') hc hs')
theorem OwnO.after2 {S S1 : Nat → Prop} {X : Nat → Prop} {base : Nat} {W W1 w2 : World} {v v' sv : Value} {l : List OutD} {cs : List Value} {ps : List Value} {d : OutD} (h : OwnO S base W v l cs ps) (hb0 : base ≤ W.heap.size) (hk : Chg X W W1) (hx : ∀ k, X k → k < base ∨ W.heap.size ≤ k)
    (hd : RB S1 W1 sv d.script) (hv0 : I64 d.value) (h1 : ∀ g, S1 g → W.heap.size ≤ g ∧ g < W1.heap.size)
    (hb : Buf w2 2 v' (l.length + 1) (cs ++ outCells d sv)) (hc : Chg (fun k => v.ownBlock = some k) W1 w2) (hs : SameOrNew W1 v v') :
    OwnO (fun g => S g ∨ S1 g) base w2 v' (l ++ [d]) (cs ++ outCells d sv) (ps ++ [sv]) := by
  have hw := hk.size
  have hvl : ∀ g, v.ownBlock = some g → g < W.heap.size := fun g e => h.buf.lt e
  have hv' : ∀ g, g < W1.heap.size → v.ownBlock ≠ some g → v'.ownBlock ≠ some g := fun g h1 h2 => by
    rcases hs with e | ⟨g', e1, e2⟩
    · rw [e]; exact h2
    · rw [e1]; intro e; cases e; omega
  have hcl : cs.length = l.length * 2 := h.buf.1
  refine ⟨by rw [List.length_append]; exact hb, ?_, by simp [h.plen], ?_, ?_, ?_⟩
  · intro g hg
    rcases hs with e | ⟨g', e1, e2⟩
    · exact h.new g (by rw [← e]; exact hg)
    · rw [hg] at e1; cases e1; omega
  · intro i p d' hp hd'
    by_cases hi : i < l.length
    · have hip : i < ps.length := by rw [h.plen]; exact hi
      rw [List.getElem?_append_left hip] at hp
      rw [List.getElem?_append_left hi] at hd'
      obtain ⟨e1, e3, e2⟩ := h.each i p d' hp hd'
      refine ⟨((e1.chg hk (fun k hk' hxk => by have := h.fresh k hk'; have := hx k hxk; omega)).chg hc (fun g hg e => (h.fresh g hg).2.2 e)).mono (fun _ => .inl), e3, ?_⟩
      rw [← e2, List.drop_append_of_le_length (by omega), List.take_append_of_le_length (by simp; omega)]
    · have hi' : i = l.length := by
        have := (List.getElem?_eq_some_iff.1 hd').1
        simp at this; omega
      subst hi'
      rw [List.getElem?_append_right (by rw [h.plen]; exact Nat.le_refl _), h.plen] at hp
      rw [List.getElem?_append_right (Nat.le_refl _)] at hd'
      simp at hp hd'
      subst hp hd'
      refine ⟨(hd.chg hc (fun g hg e => by have h2 := h1 g hg; have := hvl g e; omega)).mono (fun _ => .inr), hv0, ?_⟩
      rw [List.drop_append, List.drop_eq_nil_of_le (by omega), hcl, Nat.sub_self, List.drop_zero, List.nil_append, List.take_of_length_le]
      exact Nat.le_refl _
  · intro g hg
    have hcs := hc.size
    rcases hg with hg | hg
    · have h2 := h.fresh g hg; exact ⟨h2.1, by omega, hv' g (by omega) h2.2.2⟩
    · have h2 := h1 g hg; exact ⟨by omega, by omega, hv' g h2.2 (fun e => by have := hvl g e; omega)⟩
  · intro u hu
    rcases List.mem_append.1 hu with hu | hu
    · exact h.one u hu
    · exact outCells_one d sv hd.one u hu
theorem owno_append2 {S S1 : Nat → Prop} {X : Nat → Prop} {base : Nat} {W W1 : World} {ops : Array Oper} {rest : List Oper} {o : Oper} {a : Act} {Q : Exit → Act → World → Prop} (hgd : o.guard = none) (s x : Operand)
    (ho : o.op = .call { callee := .builtin .append, args := #[s, x], argTypes := #[23, 23] }) {v sv : Value} {l : List OutD} {cs : List Value} {ps : List Value} {d : OutD} (hO : OwnO S base W v l cs ps) (hb0 : base ≤ W.heap.size) (hk : Chg X W W1) (hxb : ∀ k, X k → k < base ∨ W.heap.size ≤ k)
    (hd : RB S1 W1 sv d.script) (hv0 : I64 d.value) (h1 : ∀ g, S1 g → W.heap.size ≤ g ∧ g < W1.heap.size) (hv : a.eval s = v)
    (c : Nat) (TT : TypeId) (cells : Array Value) (hcells : cells = (outCells d sv).toArray) (hx : a.eval x = .slice (some ⟨W1.heap.size, 0, none⟩) 1 c) (hn : (l.length + 1) * 32 ≤ 140737488355328)
    (h : ∀ v' w', OwnO (fun g => S g ∨ S1 g) base w' v' (l ++ [d]) (cs ++ outCells d sv) (ps ++ [sv]) → Chg (fun k => v.ownBlock = some k) (W1.alloc (.cells cells TT)) w' → SameOrNew (W1.alloc (.cells cells TT)) v v' → wpList Try.prog ops Q rest (a.put o.dst v') w') : wpList Try.prog ops Q (o :: rest) a (W1.alloc (.cells cells TT)) := by
  subst hcells
  obtain ⟨i0, z0, hi, hz0, hz1, hz2, hz3⟩ := info2_any out_info out_zero
  have hk2 : Keeps W1 (W1.alloc (.cells (outCells d sv).toArray TT)) := keeps_alloc (Keeps.refl _) _
  refine wpList_append_buf hgd s x 23 23 ho 47 i0 z0 2 32 Try.underlying23 hi hz0 hz1 hz2 hz3 (by decide) v l.length cs hv (hO.buf.chg (hk.trans (hk2.chg _)) (fun k e hxk => by have := hO.new k e; have := hO.buf.lt e; have := hxb k hxk; omega)) _ hx 1 (outCells d sv)
    (Src.row Try.underlying23 rfl (Row.new (outCells d sv) _ TT rfl) (outCells_one d sv hd.one)) (by unfold maxLen; omega) hn
    (fun v' w' hb hc hs' _ => h v' w' (hO.after2 hb0 (hk.trans (hk2.chg _)) hxb (hd.keeps hk2) hv0 (fun g hg => ⟨(h1 g hg).1, Nat.lt_of_lt_of_le (h1 g hg).2 hk2.size⟩) hb hc hs') hc hs')
/-- a list of slices of bytes of one's own, in blocks from base on -/
structure OwnLL (base : Nat) (W : World) (v : Value) (ls : List (List Int)) (vs : List Value) : Prop where
  buf : Buf W 1 v ls.length vs
  new : ∀ g, v.ownBlock = some g → base ≤ g
  each : ∀ (i : Nat) (u : Value) (l : List Int), vs[i]? = some u → ls[i]? = some l → RB (fun g => base ≤ g ∧ g < W.heap.size ∧ v.ownBlock ≠ some g) W u l
  one : ∀ u ∈ vs, u.oneCell' = true
theorem OwnLL.nil (base : Nat) (W : World) : OwnLL base W (.slice none 0 0) [] [] := ⟨Buf.nil _ _, fun g h => by simp [Value.ownBlock] at h, fun i u l h => by simp at h, fun u h => by simp at h⟩
theorem OwnLL.any {base : Nat} {W : World} {v : Value} {ls : List (List Int)} {vs : List Value} (h : OwnLL base W v ls vs) : ∃ a cap, v = .slice a ls.length cap := by
  obtain ⟨a, cap, h1, _⟩ := h.buf.any
  exact ⟨a, cap, h1⟩
theorem OwnLL.chg {X : Nat → Prop} {base : Nat} {W W' : World} {v : Value} {ls : List (List Int)} {vs : List Value} (h : OwnLL base W v ls vs) (hc : Chg X W W') (hx : ∀ g, X g → g < base ∨ W.heap.size ≤ g) : OwnLL base W' v ls vs :=
  have hb : ∀ g, v.ownBlock = some g → g < W.heap.size := fun g e => h.buf.lt e
  ⟨h.buf.chg hc (fun g e hxg => by have h1 := h.new g e; have h2 := hb g e; have := hx g hxg; omega), h.new,
    fun i u l hu hl => ((h.each i u l hu hl).chg hc (fun g hg hxg => by have := hx g hxg; have := hg.1; have := hg.2.1; omega)).mono (fun g hg => ⟨hg.1, Nat.lt_of_lt_of_le hg.2.1 hc.size, hg.2.2⟩), h.one⟩
theorem OwnLL.keeps {base : Nat} {W W' : World} {v : Value} {ls : List (List Int)} {vs : List Value} (h : OwnLL base W v ls vs) (hk : Keeps W W') : OwnLL base W' v ls vs := h.chg (hk.chg (fun _ => False)) (fun _ h => h.elim)
theorem OwnLL.low {base b : Nat} {W : World} {v : Value} {ls : List (List Int)} {vs : List Value} (h : OwnLL base W v ls vs) (hb : b ≤ base) : OwnLL b W v ls vs :=
  ⟨h.buf, fun g e => Nat.le_trans hb (h.new g e), fun i u l hu hl => (h.each i u l hu hl).mono (fun g hg => ⟨Nat.le_trans hb hg.1, hg.2⟩), h.one⟩
theorem OwnLL.after {X : Nat → Prop} {base : Nat} {W W1 w2 : World} {v v' u : Value} {ls : List (List Int)} {vs : List Value} {l : List Int} (h : OwnLL base W v ls vs) (hb0 : base ≤ W.heap.size) (hk : Chg X W W1) (hx0 : ∀ k, X k → k < base ∨ W.heap.size ≤ k) (hu : RB (fun g => W.heap.size ≤ g ∧ g < W1.heap.size) W1 u l)
    (hb : Buf w2 1 v' (ls.length + 1) (vs ++ [u])) (hc : Chg (fun k => v.ownBlock = some k) W1 w2) (hs : SameOrNew W1 v v') : OwnLL base w2 v' (ls ++ [l]) (vs ++ [u]) := by
  have hv' : ∀ g, g < W1.heap.size → v.ownBlock ≠ some g → v'.ownBlock ≠ some g := fun g h1 h2 => by
    rcases hs with e | ⟨g', e1, e2⟩
    · rw [e]; exact h2
    · rw [e1]; intro e; cases e; omega
  have hvl : ∀ g, v.ownBlock = some g → g < W.heap.size := fun g e => h.buf.lt e
  have hw := hk.size
  refine ⟨by rw [List.length_append]; exact hb, ?_, ?_, ?_⟩
  · intro g hg
    rcases hs with e | ⟨g', e1, e2⟩
    · exact h.new g (by rw [← e]; exact hg)
    · rw [hg] at e1; cases e1; omega
  · intro i x l' hx hl'
    have hlen : vs.length = ls.length := by have := h.buf.1; omega
    by_cases hi : i < vs.length
    · rw [List.getElem?_append_left hi] at hx
      rw [List.getElem?_append_left (by omega)] at hl'
      refine (((h.each i x l' hx hl').chg hk (fun k hk' hxk => by have := hk'.1; have := hk'.2.1; have := hx0 k hxk; omega)).chg hc (fun g hg => hg.2.2)).mono (fun g hg => ⟨hg.1, by have := hc.size; omega, hv' g (by omega) hg.2.2⟩)
    · have hi' : i = vs.length := by
        have := (List.getElem?_eq_some_iff.1 hx).1
        simp at this; omega
      subst hi'
      rw [List.getElem?_append_right (Nat.le_refl _)] at hx
      rw [hlen, List.getElem?_append_right (Nat.le_refl _)] at hl'
      simp at hx hl'
      subst hx hl'
      refine (hu.chg hc (fun g hg e => by have := hvl g e; omega)).mono (fun g hg => ⟨by omega, by have := hc.size; omega, hv' g hg.2 (fun e => by have := hvl g e; omega)⟩)
  · intro x hx
    rcases List.mem_append.1 hx with hx | hx
    · exact h.one x hx
    · simp at hx; subst hx; exact hu.one
theorem ownl_append2 {X : Nat → Prop} {base : Nat} {W W1 : World} {ops : Array Oper} {rest : List Oper} {o : Oper} {a : Act} {Q : Exit → Act → World → Prop} (hgd : o.guard = none) (s x : Operand)
    (ho : o.op = .call { callee := .builtin .append, args := #[s, x], argTypes := #[43, 43] }) {v u : Value} {ls : List (List Int)} {vs : List Value} {l : List Int} (hO : OwnLL base W v ls vs) (hb0 : base ≤ W.heap.size) (hk : Chg X W W1) (hxb : ∀ k, X k → k < base ∨ W.heap.size ≤ k) (hu : RB (fun g => W.heap.size ≤ g ∧ g < W1.heap.size) W1 u l) (hv : a.eval s = v)
    (c : Nat) (T : TypeId) (hx : a.eval x = .slice (some ⟨W1.heap.size, 0, none⟩) 1 c) (hn : (ls.length + 1) * 24 ≤ 140737488355328)
    (h : ∀ v' w', OwnLL base w' v' (ls ++ [l]) (vs ++ [u]) → Chg (fun k => v.ownBlock = some k) (W1.alloc (.cells #[u] T)) w' → wpList Try.prog ops Q rest (a.put o.dst v') w') : wpList Try.prog ops Q (o :: rest) a (W1.alloc (.cells #[u] T)) := by
  obtain ⟨i0, hi, hz0, hz1, hz2⟩ := info_any sl_info
  have hk2 : Keeps W1 (W1.alloc (.cells #[u] T)) := (Keeps.refl _).alloc (Nat.le_refl _) _
  refine wpList_append_buf hgd s x 43 43 ho 29 i0 (.slice none 0 0) 1 24 Try.underlying43 hi hz0 hz1 hz2 rfl (by decide) v ls.length vs hv (hO.buf.chg (hk.trans (hk2.chg _)) (fun k e hxk => by have := hO.new k e; have := hO.buf.lt e; have := hxb k hxk; omega)) _ hx 1 [u]
    (Src.row Try.underlying43 (by simp) (Row.new [u] _ T rfl) (fun y hy => by simp at hy; subst hy; exact hu.one)) (by unfold maxLen; omega) hn
    (fun v' w' hb hc hs' _ => h v' w' (hO.after hb0 (hk.trans (hk2.chg _)) hxb ((hu.keeps hk2).mono (fun g hg => ⟨hg.1, by have := hk2.size; omega⟩)) hb hc hs') hc)
theorem OwnLL.rl {base : Nat} {W : World} {v : Value} {ls : List (List Int)} {vs : List Value} (h : OwnLL base W v ls vs) (hl : ls.length * 24 ≤ 140737488355328) :
    RL (fun g => base ≤ g ∧ g < W.heap.size ∧ v.ownBlock ≠ some g) (fun g => base ≤ g ∧ g < W.heap.size ∧ v.ownBlock = some g) W v ls vs :=
  ⟨h.buf.rd, h.each, hl, fun g e => ⟨h.new g e, h.buf.lt e, e⟩⟩
end Go.Proofs.Ytcodpdpeklammaa
