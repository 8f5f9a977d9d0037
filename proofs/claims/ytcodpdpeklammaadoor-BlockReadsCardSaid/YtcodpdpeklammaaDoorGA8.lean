/- A transaction of one's own, of which a part is written anew, or cut. No condition. -/
import Derived.Test.YtcodpdpeklammaaDoorGA7
namespace Go.Proofs.YtcodpdpeklammaaDoor
set_option linter.unusedVariables false
set_option linter.unusedSimpArgs false
open Go Go.RowKit

theorem inCells_set33 (d : InD) (sv wv sv' : Value) (s' : List Int) (h : d.hash.length = 32) : (inCells d sv wv).set 33 sv' = inCells { d with script := s' } sv' wv := by
  unfold inCells
  rw [List.set_append_right _ _ (by simp [h])]
  simp [h]
theorem inCells_set34 (d : InD) (sv wv : Value) (q : Int) (h : d.hash.length = 32) : (inCells d sv wv).set 34 (.int .u32 q) = inCells { d with seq := q } sv wv := by
  unfold inCells
  rw [List.set_append_right _ _ (by simp [h])]
  simp [h]
theorem inCells_set35 (d : InD) (sv wv wv' : Value) (t' : List (List Int)) (h : d.hash.length = 32) : (inCells d sv wv).set 35 wv' = inCells { d with wit := t' } sv wv' := by
  unfold inCells
  rw [List.set_append_right _ _ (by simp [h])]
  simp [h]
/-- two rows at one place of one length are the same -/
theorem Row.same {w : World} {b off : Nat} {xs ys : List Value} (h : Row w b off xs) (k : Row w b off ys) (hl : xs.length = ys.length) : xs = ys := by
  apply List.ext_getElem hl
  intro i h1 h2
  have a := (h i _ (List.getElem?_eq_getElem h1)).1
  have b := (k i _ (List.getElem?_eq_getElem h2)).1
  rw [a] at b
  exact Option.some.inj b
theorem inCells_inj {d : InD} {sv wv sv' wv' : Value} (h : inCells d sv wv = inCells d sv' wv') : sv = sv' ∧ wv = wv' := by
  unfold inCells at h
  have := List.append_cancel_left h
  simpa using this
theorem RIns.row {S T R : Nat → Prop} {W : World} {g off n cap : Nat} {l : List InD} {cs : List Value} {ps : List (Value × Value)} (h : RIns S T R W (.slice (some ⟨g, off, none⟩) n cap) l cs ps) (hne : 0 < l.length) : Row W g off cs ∧ g < W.heap.size ∧ n = l.length ∧ cs.length = l.length * 36 := by
  obtain ⟨h0, a', cap', e, h2, h3, h4, h5⟩ := h.rd
  cases e
  obtain ⟨g', off', e2, hg, hr⟩ := h5 _ rfl hne
  cases e2
  exact ⟨hr, hg, rfl, h0⟩
theorem seg_set (cs : List Value) (i m k s : Nat) (u : Value) (hk : k < s) : ((cs.set (i * s + k) u).drop (m * s)).take s = if m = i then ((cs.drop (i * s)).take s).set k u else (cs.drop (m * s)).take s := by
  by_cases h : m = i
  · subst h
    rw [if_pos rfl, List.drop_set, if_neg (by omega), List.take_set, show m * s + k - m * s = k by omega]
  · rw [if_neg h]
    by_cases h2 : m < i
    · have h3 : (m + 1) * s ≤ i * s := Nat.mul_le_mul_right _ h2
      rw [Nat.add_mul, Nat.one_mul] at h3
      rw [List.drop_set, if_neg (by omega), List.take_set, List.set_eq_of_length_le (by simp; omega)]
    · have h3 : (i + 1) * s ≤ m * s := Nat.mul_le_mul_right _ (by omega)
      rw [Nat.add_mul, Nat.one_mul] at h3
      rw [List.drop_set_of_lt (by omega)]
theorem RIns.put {S T R : Nat → Prop} {W : World} {g off n cap : Nat} {l : List InD} {cs : List Value} {ps : List (Value × Value)} (h : RIns S T R W (.slice (some ⟨g, off, none⟩) n cap) l cs ps) (i : Nat) (di : InD) (hd : l[i]? = some di) (p : Value × Value) (hp : ps[i]? = some p)
    (k : Nat) (hk : k < 36) (u : Value) (d' : InD) (p' : Value × Value) (hc : (inCells di p.1 p.2).set k u = inCells d' p'.1 p'.2) (hr : RIn S T W p'.1 p'.2 d') (hS : ∀ b, S b → b ≠ g) (hT : ∀ b, T b → b ≠ g) :
    RIns S T R (W.setCell ⟨g, off + i * 36 + k, none⟩ u) (.slice (some ⟨g, off, none⟩) n cap) (l.set i d') (cs.set (i * 36 + k) u) (ps.set i p') := by
  have hil : i < l.length := (List.getElem?_eq_some_iff.1 hd).1
  obtain ⟨hrow, hg, hn, hcl⟩ := h.row (by omega)
  have hx : Chg (· = g) W (W.setCell ⟨g, off + i * 36 + k, none⟩ u) := (Chg.refl (· = g) W).setCell (p := ⟨g, off + i * 36 + k, none⟩) (.inr rfl) u
  have hrow2 := hrow.set (i * 36 + k) (by omega) u
  rw [← Nat.add_assoc] at hrow2
  obtain ⟨h0, a', cap', e, h2, h3, h4, h5⟩ := h.rd
  cases e
  refine ⟨⟨by simp [hcl], _, cap, by rw [List.length_set], by rw [List.length_set]; exact h2, h3, fun e => (by cases e), fun ad e _ => ⟨g, off, (Option.some.inj e).symm, by simpa using hg, hrow2⟩⟩, by simp [h.plen], ?_, by rw [List.length_set]; exact h.small, fun b e => h.foot b e⟩
  intro m q dm hq hdm
  by_cases hm : m = i
  · subst hm
    rw [List.getElem?_set_self (by rw [h.plen]; exact hil)] at hq
    rw [List.getElem?_set_self hil] at hdm
    cases hq; cases hdm
    refine ⟨hr.chg hx (fun b hb e => hS b hb e) (fun b hb e => hT b hb e), ?_⟩
    rw [seg_set _ _ _ _ _ _ hk, if_pos rfl, (h.each m p di hp hd).2]
    exact hc
  · rw [List.getElem?_set_ne (Ne.symm hm)] at hq hdm
    obtain ⟨e1, e2⟩ := h.each m q dm hq hdm
    refine ⟨e1.chg hx (fun b hb e => hS b hb e) (fun b hb e => hT b hb e), ?_⟩
    rw [seg_set _ _ _ _ _ _ hk, if_neg hm]
    exact e2
theorem ApartW.set {ps : List (Value × Value)} (h : ApartW ps) (i : Nat) (p p' : Value × Value) (hp : ps[i]? = some p) (hb : p'.2.ownBlock = p.2.ownBlock ∨ p'.2.ownBlock = none) : ApartW (ps.set i p') := by
  have hi : i < ps.length := (List.getElem?_eq_some_iff.1 hp).1
  have back : ∀ (m : Nat) (q : Value × Value), (ps.set i p')[m]? = some q → ∃ q0, ps[m]? = some q0 ∧ ∀ g, q.2.ownBlock = some g → q0.2.ownBlock = some g := fun m q hq => by
    by_cases hm : i = m
    · subst hm
      rw [List.getElem?_set_self hi] at hq
      cases hq
      refine ⟨p, hp, fun g e => ?_⟩
      rcases hb with hb | hb
      · rw [← hb]; exact e
      · rw [hb] at e; cases e
    · rw [List.getElem?_set_ne hm] at hq
      exact ⟨q, hq, fun g e => e⟩
  intro a b q r hab hq hr g e e2
  obtain ⟨q0, h1, h2⟩ := back a q hq
  obtain ⟨r0, h3, h4⟩ := back b r hr
  exact h a b q0 r0 hab h1 h3 g (h2 g e) (h4 g e2)
theorem Chg.cell {W : World} (g o : Nat) (u : Value) : Chg (· = g) W (W.setCell ⟨g, o, none⟩ u) := (Chg.refl (· = g) W).setCell (p := ⟨g, o, none⟩) (.inr rfl) u
/-- which pair an input's row tells -/
theorem RIns.pair {S T R : Nat → Prop} {W : World} {g off n cap : Nat} {l : List InD} {cs : List Value} {ps : List (Value × Value)} (h : RIns S T R W (.slice (some ⟨g, off, none⟩) n cap) l cs ps) {i : Nat} {di : InD} (hd : l[i]? = some di) {sv wv : Value} (hrow : Row W g (off + i * 36) (inCells di sv wv)) : ps[i]? = some (sv, wv) := by
  have hil : i < l.length := (List.getElem?_eq_some_iff.1 hd).1
  obtain ⟨hr, hg, hn, hcl⟩ := h.row (by omega)
  have hp : ps[i]? = some (ps[i]'(by rw [h.plen]; exact hil)) := List.getElem?_eq_getElem (by rw [h.plen]; exact hil)
  obtain ⟨e1, e2⟩ := h.each i _ di hp hd
  have h3 := (hr.drop (i * 36)).take 36
  rw [e2] at h3
  have h4 := Row.same hrow h3 (by rw [inCells_length _ _ _ e1.ok.hashLen, inCells_length _ _ _ e1.ok.hashLen])
  obtain ⟨e3, e4⟩ := inCells_inj h4
  rw [hp, e3, e4]
theorem OwnTx.putIn {S T : Nat → Prop} {base : Nat} {W : World} {g off n cap : Nat} {ov : Value} {d : TxD} (h : OwnTx S T base W (.slice (some ⟨g, off, none⟩) n cap) ov d) {i : Nat} {di : InD} {sv wv : Value} (hd : d.ins[i]? = some di) (hrow : Row W g (off + i * 36) (inCells di sv wv))
    (k : Nat) (u : Value) (d' : InD) (sv' wv' : Value) (hk : k < 36) (hc : (inCells di sv wv).set k u = inCells d' sv' wv') (hr : RIn S T W sv' wv' d') (hb : wv'.ownBlock = wv.ownBlock ∨ wv'.ownBlock = none) :
    OwnTx S T base (W.setCell ⟨g, off + i * 36 + k, none⟩ u) (.slice (some ⟨g, off, none⟩) n cap) ov { d with ins := d.ins.set i d' } := by
  obtain ⟨hver, hlock, ⟨cs, ps, hi, ha⟩, ho, hf, hst, hia, hoa, hio⟩ := h
  have hp := hi.pair hd hrow
  have hS : ∀ b, S b → b ≠ g := fun b hb e => hia b (.inl hb) (by rw [e]; rfl)
  have hT : ∀ b, T b → b ≠ g := fun b hb e => hia b (.inr hb) (by rw [e]; rfl)
  have hx := Chg.cell (W := W) g (off + i * 36 + k) u
  exact ⟨hver, hlock, ⟨_, _, hi.put i di hd (sv, wv) hp k hk u d' (sv', wv') hc hr hS hT, ha.set i _ _ hp hb⟩, ho.chg hx (fun b hb e => hS b hb e) (fun b hb e => hio g rfl (by rw [← e]; exact hb)),
    fun b hb => ⟨(hf b hb).1, Nat.lt_of_lt_of_le (hf b hb).2 hx.size⟩, hst, hia, hoa, hio⟩
/-- an item of an input written anew -/
theorem RIn.other {S T : Nat → Prop} {W W' : World} {sv wv : Value} {d : InD} {g : Nat} (h : RIn S T W sv wv d) (hx : Chg (· = g) W W') (hS : ∀ b, S b → b ≠ g) (hw : wv.ownBlock ≠ some g) : RIn S T W' sv wv d := by
  obtain ⟨ho, hs, vs, hl⟩ := h
  exact ⟨ho, hs.chg hx (fun b hb e => hS b hb e), vs, ⟨hl.rd.chg hx (fun b hb e => hw (by rw [hb, e])), fun i u l hu hl' => (hl.each i u l hu hl').chg hx (fun b hb e => hS b hb e), hl.small, hl.foot⟩⟩
theorem RIn.putItem {S T : Nat → Prop} {W : World} {sv : Value} {d : InD} {gw ow m c : Nat} (h : RIn S T W sv (.slice (some ⟨gw, ow, none⟩) m c) d) (j : Nat) (hj : j < d.wit.length) (u : Value) (l' : List Int) (hu : RB S W u l') (hS : ∀ b, S b → b ≠ gw) :
    RIn S T (W.setCell ⟨gw, ow + j, none⟩ u) sv (.slice (some ⟨gw, ow, none⟩) m c) { d with wit := d.wit.set j l' } := by
  have hx := Chg.cell (W := W) gw (ow + j) u
  have hSx : ∀ b, S b → ¬ b = gw := hS
  obtain ⟨ho, hs, vs, hl⟩ := h
  have hlen := hl.len
  obtain ⟨h0, a', cap', e, h2, h3, h4, h5⟩ := hl.rd
  cases e
  obtain ⟨g', off', e2, hg, hr⟩ := h5 _ rfl (by omega)
  cases e2
  have hr2 := hr.set j (by omega) u
  refine ⟨⟨ho.hashLen, ho.hash, ho.index, ho.seq⟩, hs.chg hx hSx, vs.set j u, ⟨⟨by simp [hlen], _, c, by rw [List.length_set], by rw [List.length_set]; exact h2, h3, fun e => (by cases e), fun ad e _ => ⟨gw, ow, (Option.some.inj e).symm, by simpa using hg, hr2⟩⟩, ?_, by rw [List.length_set]; exact hl.small, fun b e => hl.foot b e⟩⟩
  intro i x lx hxx hlx
  by_cases hi : j = i
  · subst hi
    rw [List.getElem?_set_self (by omega)] at hxx hlx
    cases hxx; cases hlx
    exact hu.chg hx hSx
  · rw [List.getElem?_set_ne hi] at hxx hlx
    exact (hl.each i x lx hxx hlx).chg hx hSx
theorem OwnTx.putItem {S T : Nat → Prop} {base : Nat} {W : World} {g off n cap gw ow m c : Nat} {ov : Value} {d : TxD} (h : OwnTx S T base W (.slice (some ⟨g, off, none⟩) n cap) ov d) {i : Nat} {di : InD} {sv : Value} (hd : d.ins[i]? = some di) (hrow : Row W g (off + i * 36) (inCells di sv (.slice (some ⟨gw, ow, none⟩) m c)))
    (hr : RIn S T W sv (.slice (some ⟨gw, ow, none⟩) m c) di) (j : Nat) (hj : j < di.wit.length) (u : Value) (l' : List Int) (hu : RB S W u l') :
    OwnTx S T base (W.setCell ⟨gw, ow + j, none⟩ u) (.slice (some ⟨g, off, none⟩) n cap) ov { d with ins := d.ins.set i { di with wit := di.wit.set j l' } } := by
  obtain ⟨hver, hlock, ⟨cs, ps, hi, ha⟩, ho, hf, hst, hia, hoa, hio⟩ := h
  have hp := hi.pair hd hrow
  have hTg : T gw := hr.wit.foot gw rfl
  have hS : ∀ b, S b → b ≠ gw := fun b hb e => hst b hb (by rw [e]; exact hTg)
  have hgw : g ≠ gw := fun e => hia gw (.inr hTg) (by rw [← e]; rfl)
  have hx := Chg.cell (W := W) gw (ow + j) u
  have hil : i < d.ins.length := (List.getElem?_eq_some_iff.1 hd).1
  refine ⟨hver, hlock, ⟨cs, ps, ⟨?_, by simp [hi.plen], ?_, by simpa using hi.small, hi.foot⟩, ha⟩, ho.chg hx (fun b hb e => hS b hb e) (fun b hb e => hoa gw (.inr hTg) (by rw [← e]; exact hb)),
    fun b hb => ⟨(hf b hb).1, Nat.lt_of_lt_of_le (hf b hb).2 hx.size⟩, hst, hia, hoa, hio⟩
  · have := hi.rd.chg hx (fun b e e2 => hgw (by have h9 : some g = some b := e; cases h9; exact e2))
    simpa using this
  · intro k q dk hq hdk
    by_cases hk : i = k
    · subst hk
      rw [hp] at hq
      rw [List.getElem?_set_self hil] at hdk
      cases hq; cases hdk
      exact ⟨hr.putItem j hj u l' hu hS, by have := (hi.each i _ di hp hd).2; exact this⟩
    · rw [List.getElem?_set_ne hk] at hdk
      obtain ⟨e1, e2⟩ := hi.each k q dk hq hdk
      exact ⟨e1.other hx hS (fun e => ha k i q _ (Ne.symm hk) hq hp gw e rfl), e2⟩
theorem OwnTx.takeIns {S T : Nat → Prop} {base : Nat} {W : World} {a : Option Addr} {n cap : Nat} {ov : Value} {d : TxD} (h : OwnTx S T base W (.slice a n cap) ov d) (m : Nat) (hm : m ≤ d.ins.length) : OwnTx S T base W (.slice a m cap) ov { d with ins := d.ins.take m } := by
  obtain ⟨hver, hlock, ⟨cs, ps, hi, ha⟩, ho, hf, hst, hia, hoa, hio⟩ := h
  have hob : (Value.slice a m cap).ownBlock = (Value.slice a n cap).ownBlock := by cases a <;> rfl
  have hml : (d.ins.take m).length = m := by simp; omega
  have hml2 : ({ d with ins := d.ins.take m } : TxD).ins.length = m := hml
  refine ⟨hver, hlock, ⟨cs.take (m * 36), ps.take m, ⟨?_, by simp [hi.plen], ?_, by rw [hml]; have := hi.small; omega, fun b e => e⟩, ?_⟩, ho, fun b hb => hf b (by rw [← hob]; exact hb), hst, fun b hb => by rw [hob]; exact hia b hb, hoa, fun b e => hio b (by rw [← hob]; exact e)⟩
  · obtain ⟨h0, a', cap', e, h2, h3, h4, h5⟩ := hi.rd
    cases e
    refine ⟨by rw [hml2]; simp; omega, a, cap, by rw [hml2], by rw [hml2]; omega, h3, fun e => by have := h4 e; rw [hml2]; omega, fun ad e hn => ?_⟩
    rw [hml2] at hn
    obtain ⟨g, off, e2, hg, hr⟩ := h5 ad e (by omega)
    exact ⟨g, off, e2, hg, hr.take _⟩
  · intro i p di hp hd
    rw [List.getElem?_take] at hp hd
    split at hp
    · rename_i him
      rw [if_pos him] at hd
      obtain ⟨e1, e2⟩ := hi.each i p di hp hd
      refine ⟨e1, ?_⟩
      have h3 : (i + 1) * 36 ≤ m * 36 := Nat.mul_le_mul_right _ him
      rw [List.drop_take, List.take_take, Nat.min_eq_left (by omega)]
      exact e2
    · cases hp
  · intro i k p q hik hp hq
    rw [List.getElem?_take] at hp hq
    split at hp
    · split at hq
      · exact ha i k p q hik hp hq
      · cases hq
    · cases hp
theorem outCells_inj {d : OutD} {sv sv' : Value} (h : outCells d sv = outCells d sv') : sv = sv' := by simpa [outCells] using h
theorem OwnTx.putOut {S T : Nat → Prop} {base : Nat} {W : World} {g off n cap : Nat} {iv : Value} {d : TxD} (h : OwnTx S T base W iv (.slice (some ⟨g, off, none⟩) n cap) d) {i : Nat} {di : OutD} {sv : Value} (hd : d.outs[i]? = some di) (hrow : Row W g (off + i * 2) (outCells di sv))
    (k : Nat) (u : Value) (d' : OutD) (sv' : Value) (hk : k < 2) (hc : (outCells di sv).set k u = outCells d' sv') (hr : RB S W sv' d'.script) (hv : I64 d'.value) :
    OwnTx S T base (W.setCell ⟨g, off + i * 2 + k, none⟩ u) iv (.slice (some ⟨g, off, none⟩) n cap) { d with outs := d.outs.set i d' } := by
  obtain ⟨hver, hlock, hi, ⟨cs, ps, ho⟩, hf, hst, hia, hoa, hio⟩ := h
  have hil : i < d.outs.length := (List.getElem?_eq_some_iff.1 hd).1
  have hS : ∀ b, S b → b ≠ g := fun b hb e => hoa b (.inl hb) (by rw [e]; rfl)
  have hT : ∀ b, T b → b ≠ g := fun b hb e => hoa b (.inr hb) (by rw [e]; rfl)
  have hx := Chg.cell (W := W) g (off + i * 2 + k) u
  obtain ⟨h0, a', cap', e, h2, h3, h4, h5⟩ := ho.rd
  cases e
  obtain ⟨g', off', e2, hg, hrw⟩ := h5 _ rfl (by omega)
  cases e2
  have hrow2 := hrw.set (i * 2 + k) (by omega) u
  rw [← Nat.add_assoc] at hrow2
  have hpl := ho.plen
  have hp : ps[i]? = some (ps[i]'(by omega)) := List.getElem?_eq_getElem (by omega)
  have e9 := (ho.each i _ di hp hd).2.2
  have h8 := (hrw.drop (i * 2)).take 2
  rw [e9] at h8
  have h7 := outCells_inj (Row.same hrow h8 rfl)
  refine ⟨hver, hlock, hi.chg hx (fun b hb e => hS b hb e) (fun b hb e => hT b hb e) (fun b hb e => hio b hb (by rw [e]; rfl)), ⟨cs.set (i * 2 + k) u, ps.set i sv', ⟨⟨by simp; omega, _, cap, by rw [List.length_set], by rw [List.length_set]; exact h2, h3, fun e => (by cases e), fun ad e _ => ⟨g, off, (Option.some.inj e).symm, by simpa using hg, hrow2⟩⟩, by simp [hpl], ?_, by rw [List.length_set]; exact ho.small, fun b e => ho.foot b e⟩⟩,
    fun b hb => ⟨(hf b hb).1, Nat.lt_of_lt_of_le (hf b hb).2 hx.size⟩, hst, hia, hoa, hio⟩
  intro m q dm hq hdm
  by_cases hm : m = i
  · subst hm
    rw [List.getElem?_set_self (by omega)] at hq
    rw [List.getElem?_set_self hil] at hdm
    cases hq; cases hdm
    refine ⟨hr.chg hx (fun b hb e => hS b hb e), hv, ?_⟩
    rw [seg_set _ _ _ _ _ _ hk, if_pos rfl, e9, ← h7]
    exact hc
  · rw [List.getElem?_set_ne (Ne.symm hm)] at hq hdm
    obtain ⟨e1, e3, e2⟩ := ho.each m q dm hq hdm
    refine ⟨e1.chg hx (fun b hb e => hS b hb e), e3, ?_⟩
    rw [seg_set _ _ _ _ _ _ hk, if_neg hm]
    exact e2
theorem OwnTx.takeOuts {S T : Nat → Prop} {base : Nat} {W : World} {a : Option Addr} {n cap : Nat} {iv : Value} {d : TxD} (h : OwnTx S T base W iv (.slice a n cap) d) (m : Nat) (hm : m ≤ d.outs.length) : OwnTx S T base W iv (.slice a m cap) { d with outs := d.outs.take m } := by
  obtain ⟨hver, hlock, hi, ⟨cs, ps, ho⟩, hf, hst, hia, hoa, hio⟩ := h
  have hob : (Value.slice a m cap).ownBlock = (Value.slice a n cap).ownBlock := by cases a <;> rfl
  have hml : (d.outs.take m).length = m := by simp; omega
  have hml2 : ({ d with outs := d.outs.take m } : TxD).outs.length = m := hml
  refine ⟨hver, hlock, hi, ⟨cs.take (m * 2), ps.take m, ⟨?_, by simp [ho.plen], ?_, by rw [hml]; have := ho.small; omega, fun b e => e⟩⟩, fun b hb => hf b (by rw [← hob]; exact hb), hst, hia, fun b hb => by rw [hob]; exact hoa b hb, fun b e => by rw [hob]; exact hio b e⟩
  · obtain ⟨h0, a', cap', e, h2, h3, h4, h5⟩ := ho.rd
    cases e
    refine ⟨by rw [hml2]; simp; omega, a, cap, by rw [hml2], by rw [hml2]; omega, h3, fun e => by have := h4 e; rw [hml2]; omega, fun ad e hn => ?_⟩
    rw [hml2] at hn
    obtain ⟨g, off, e2, hg, hr⟩ := h5 ad e (by omega)
    exact ⟨g, off, e2, hg, hr.take _⟩
  · intro i p di hp hd
    rw [List.getElem?_take] at hp hd
    split at hp
    · rename_i him
      rw [if_pos him] at hd
      obtain ⟨e1, e3, e2⟩ := ho.each i p di hp hd
      refine ⟨e1, e3, ?_⟩
      have h3 : (i + 1) * 2 ≤ m * 2 := Nat.mul_le_mul_right _ him
      rw [List.drop_take, List.take_take, Nat.min_eq_left (by omega)]
      exact e2
    · cases hp
end Go.Proofs.YtcodpdpeklammaaDoor
