/- Bytes of one's own are written over: what was read is read still, of the same lengths, with other bytes. No condition. -/
import Derived.Test.YtjfkkdkmpnpmpaaTxPut
import Derived.Test.YtjfkkdkmpnpmpaaTxLift
namespace Go.Proofs.Ytjfkkdkmpnpmpaa
set_option linter.unusedVariables false
set_option linter.unusedSimpArgs false
open Go Go.RowKit

structure ByteStep (S : Nat → Prop) (W W' : World) : Prop where
  chg : Chg S W W'
  cells : ∀ (g o : Nat) (x : Int), S g → W.cell? ⟨g, o, none⟩ = some (.int .u8 x) → Byte x → W.frozen? ⟨g, o, none⟩ = false → ∃ y, W'.cell? ⟨g, o, none⟩ = some (.int .u8 y) ∧ Byte y ∧ W'.frozen? ⟨g, o, none⟩ = false
theorem ByteStep.refl (S : Nat → Prop) (W : World) : ByteStep S W W := ⟨Chg.refl _ _, fun g o x _ h hb hf => ⟨x, h, hb, hf⟩⟩
theorem ByteStep.trans {S : Nat → Prop} {a b c : World} (h : ByteStep S a b) (k : ByteStep S b c) : ByteStep S a c :=
  ⟨h.chg.trans k.chg, fun g o x hs hc hb hf => by
    obtain ⟨y, h1, h2, h3⟩ := h.cells g o x hs hc hb hf
    exact k.cells g o y hs h1 h2 h3⟩
theorem ByteStep.one {S : Nat → Prop} {W : World} {g o : Nat} {x y : Int} (hs : S g) (hc : W.cell? ⟨g, o, none⟩ = some (.int .u8 x)) (hy : Byte y) : ByteStep S W (W.setCell ⟨g, o, none⟩ (.int .u8 y)) := by
  refine ⟨(Chg.cell g o _).mono (fun k _ e => by rw [e]; exact hs), fun g' o' z hs' hz hbz hf => ?_⟩
  by_cases e : (⟨g', o', none⟩ : Addr) = ⟨g, o, none⟩
  · rw [e]
    exact ⟨y, World.cell?_setCell_same _ _ _ hc, hy, by rw [World.frozen?_setCell, ← e]; exact hf⟩
  · exact ⟨z, by rw [World.cell?_setCell_other _ _ _ _ (fun h => e h.symm)]; exact hz, hbz, by rw [World.frozen?_setCell]; exact hf⟩
theorem Rd.empty {W W' : World} {size : Nat} {v : Value} {xs : List Value} (h : Rd W size v 0 xs) : Rd W' size v 0 xs := by
  obtain ⟨h0, a, cap, rfl, h2, h3, h4, h5⟩ := h
  exact ⟨h0, a, cap, rfl, h2, h3, h4, fun ad e hn => absurd hn (by omega)⟩
theorem RB.bytesAt {S : Nat → Prop} {W W' : World} {v : Value} {l : List Int} (h : RB S W v l) (hs : ByteStep S W W') : ∃ l', RB S W' v l' ∧ l'.length = l.length := by
  by_cases hn : l.length = 0
  · have hl : l = [] := List.eq_nil_of_length_eq_zero hn
    subst hl
    exact ⟨[], ⟨h.rd.empty, h.bytes, h.small, h.foot⟩, rfl⟩
  · obtain ⟨h0, a, cap, rfl, h2, h3, h4, h5⟩ := h.rd
    cases a with
    | none => exact absurd (h4 rfl).1 hn
    | some ad =>
      obtain ⟨g, off, rfl, hg, hr⟩ := h5 ad rfl (by omega)
      have hsg : S g := h.foot g rfl
      obtain ⟨V, hV⟩ := pick_lt (m := l.length) (p := fun i (y : Int) => W'.cell? ⟨g, off + i, none⟩ = some (.int .u8 y) ∧ Byte y ∧ W'.frozen? ⟨g, off + i, none⟩ = false) (fun i hi => by
        have h6 := hr i (.int .u8 l[i]) (by simp [hi])
        exact hs.cells g (off + i) l[i] hsg h6.1 (h.bytes _ (List.getElem_mem hi)) h6.2)
      refine ⟨(List.range l.length).map V, ⟨⟨by simp, _, cap, by simp, by simpa using h2, h3, fun e => (by cases e), fun ad e _ => ⟨g, off, (Option.some.inj e).symm, Nat.lt_of_lt_of_le hg hs.chg.size, ?_⟩⟩, ?_, by simpa using h.small, h.foot⟩, by simp⟩
      · intro j u hu
        by_cases hj : j < l.length
        · simp [hj] at hu
          subst hu
          exact ⟨(hV j hj).1, (hV j hj).2.2⟩
        · rw [List.getElem?_eq_none (by simpa using hj)] at hu; cases hu
      · intro x hx
        simp only [List.mem_map, List.mem_range] at hx
        obtain ⟨i, hi, rfl⟩ := hx
        exact (hV i hi).2.1
theorem RLL.bytesAt {S T : Nat → Prop} {W W' : World} {v : Value} {ls : List (List Int)} (h : RLL S T W v ls) (hs : ByteStep S W W') (hd : ∀ g, T g → ¬ S g) : ∃ ls', RLL S T W' v ls' ∧ ls'.length = ls.length := by
  obtain ⟨vs, h⟩ := h
  have hl := h.len
  obtain ⟨V, hV⟩ := pick_lt (m := ls.length) (p := fun i (l' : List Int) => ∀ u, vs[i]? = some u → RB S W' u l') (fun i hi => by
    have hu : vs[i]? = some (vs[i]'(by omega)) := List.getElem?_eq_getElem (by omega)
    obtain ⟨l', h1, _⟩ := (h.each i _ _ hu (List.getElem?_eq_getElem hi)).bytesAt hs
    exact ⟨l', fun u hu2 => by rw [hu] at hu2; cases hu2; exact h1⟩)
  refine ⟨(List.range ls.length).map V, ⟨vs, ⟨by have := h.rd.chg hs.chg (fun g e => hd g (h.foot g e)); simpa using this, fun i u l hu hl2 => ?_, by simpa using h.small, h.foot⟩⟩, by simp⟩
  have hi : i < ls.length := by have := (List.getElem?_eq_some_iff.1 hu).1; omega
  simp [hi] at hl2
  subst hl2
  exact hV i hi u hu
theorem RIn.bytesAt {S T : Nat → Prop} {W W' : World} {sv wv : Value} {d : InD} (h : RIn S T W sv wv d) (hs : ByteStep S W W') (hd : ∀ g, T g → ¬ S g) : ∃ d', RIn S T W' sv wv d' ∧ inCells d' sv wv = inCells d sv wv ∧ d'.wit.length = d.wit.length := by
  obtain ⟨s', h1, h2⟩ := h.script.bytesAt hs
  obtain ⟨w', h3, h4⟩ := h.wit.bytesAt hs hd
  exact ⟨{ d with script := s', wit := w' }, ⟨⟨h.ok.hashLen, h.ok.hash, h.ok.index, h.ok.seq⟩, h1, h3⟩, rfl, h4⟩
theorem OwnTx.bytesAt {S T : Nat → Prop} {base : Nat} {W W' : World} {iv ov : Value} {d : TxD} (h : OwnTx S T base W iv ov d) (hs : ByteStep S W W') :
    ∃ d', OwnTx S T base W' iv ov d' ∧ d'.ver = d.ver ∧ d'.lock = d.lock ∧ d'.ins.length = d.ins.length ∧ d'.outs.length = d.outs.length ∧ (∀ (i : Nat) (x : InD), d.ins[i]? = some x → ∃ x', d'.ins[i]? = some x' ∧ x'.wit.length = x.wit.length) := by
  have hd : ∀ g, T g → ¬ S g := fun g ht hsg => h.st g hsg ht
  obtain ⟨hver, hlock, ⟨cs, ps, hi, ha⟩, ⟨cs2, ps2, ho⟩, hf, hst, hia, hoa, hio⟩ := h
  obtain ⟨V, hV⟩ := pick_lt (m := d.ins.length) (p := fun i (x' : InD) => ∀ p x, ps[i]? = some p → d.ins[i]? = some x → RIn S T W' p.1 p.2 x' ∧ inCells x' p.1 p.2 = inCells x p.1 p.2 ∧ x'.wit.length = x.wit.length) (fun i hil => by
    have hp : ps[i]? = some (ps[i]'(by rw [hi.plen]; exact hil)) := List.getElem?_eq_getElem _
    have hx : d.ins[i]? = some (d.ins[i]) := List.getElem?_eq_getElem hil
    obtain ⟨x', h1, h2, h3⟩ := (hi.each i _ _ hp hx).1.bytesAt hs hd
    exact ⟨x', fun p x a b => by rw [hp] at a; rw [hx] at b; cases a; cases b; exact ⟨h1, h2, h3⟩⟩)
  obtain ⟨U, hU⟩ := pick_lt (m := d.outs.length) (p := fun i (l' : List Int) => ∀ p, ps2[i]? = some p → RB S W' p l') (fun i hil => by
    have hp : ps2[i]? = some (ps2[i]'(by rw [ho.plen]; exact hil)) := List.getElem?_eq_getElem _
    obtain ⟨l', h1, _⟩ := (ho.each i _ _ hp (List.getElem?_eq_getElem hil)).1.bytesAt hs
    exact ⟨l', fun p a => by rw [hp] at a; cases a; exact h1⟩)
  have gi : ∀ i x, ((List.range d.ins.length).map V)[i]? = some x → i < d.ins.length ∧ x = V i := fun i x hx => by
    have hil : i < d.ins.length := by have := (List.getElem?_eq_some_iff.1 hx).1; simpa using this
    simp [hil] at hx
    exact ⟨hil, hx.symm⟩
  have go : ∀ i x, ((List.range d.outs.length).map (fun i => (⟨(d.outs.getD i default).value, U i⟩ : OutD)))[i]? = some x → i < d.outs.length ∧ x = ⟨(d.outs.getD i default).value, U i⟩ := fun i x hx => by
    have hil : i < d.outs.length := by have := (List.getElem?_eq_some_iff.1 hx).1; simpa using this
    simp [hil] at hx
    exact ⟨hil, by rw [← hx]; simp [List.getD, hil]⟩
  refine ⟨⟨d.ver, (List.range d.ins.length).map V, (List.range d.outs.length).map (fun i => ⟨(d.outs.getD i default).value, U i⟩), d.lock⟩, ⟨hver, hlock, ⟨cs, ps, ⟨?_, by simpa using hi.plen, ?_, by simpa using hi.small, hi.foot⟩, ha⟩, ⟨cs2, ps2, ⟨?_, by simpa using ho.plen, ?_, by simpa using ho.small, ho.foot⟩⟩, fun g hg => ⟨(hf g hg).1, Nat.lt_of_lt_of_le (hf g hg).2 hs.chg.size⟩, hst, hia, hoa, hio⟩, rfl, rfl, by simp, by simp, ?_⟩
  · have := hi.rd.chg hs.chg (fun g e hsg => hia g (.inl hsg) e)
    simpa using this
  · intro i p x hp hx
    obtain ⟨hil, rfl⟩ := gi i x hx
    have hx0 : d.ins[i]? = some (d.ins[i]) := List.getElem?_eq_getElem hil
    obtain ⟨h1, h2, _⟩ := hV i hil p _ hp hx0
    exact ⟨h1, by rw [h2]; exact (hi.each i p _ hp hx0).2⟩
  · have := ho.rd.chg hs.chg (fun g e hsg => hoa g (.inl hsg) e)
    simpa using this
  · intro i p x hp hx
    obtain ⟨hil, rfl⟩ := go i x hx
    have hx0 : d.outs[i]? = some (d.outs[i]) := List.getElem?_eq_getElem hil
    obtain ⟨h1, h2, h3⟩ := ho.each i p _ hp hx0
    have e : (d.outs.getD i default) = d.outs[i] := by simp [List.getD, hil]
    refine ⟨hU i hil p hp, by show I64 (d.outs.getD i default).value; rw [e]; exact h2, ?_⟩
    rw [h3]
    show outCells d.outs[i] p = [.int .i64 (d.outs.getD i default).value, p]
    rw [e]
    rfl
  · intro i x hx
    have hil : i < d.ins.length := (List.getElem?_eq_some_iff.1 hx).1
    have hp : ps[i]? = some (ps[i]'(by rw [hi.plen]; exact hil)) := List.getElem?_eq_getElem _
    exact ⟨V i, by simp [hil], (hV i hil _ x hp hx).2.2⟩
end Go.Proofs.Ytjfkkdkmpnpmpaa
