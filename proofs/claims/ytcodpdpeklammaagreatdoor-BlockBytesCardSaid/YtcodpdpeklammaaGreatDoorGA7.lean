/- A transaction of one's own, of which a part is written anew, or cut. No condition. | What the reference's Few makes of a transaction, in plain Lean; a list written anew up to a place. No condition. | A region that draws its order, whose operations but the last ones (in one forced order) are quiet: the first ones are walked once, in the order of the text; then the last ones as a plain list. (The kit's StillTail, at the class of worlds of its Quiet.) No condition. | Two ways of a condition come together again: what comes behind is walked once. No condition. -/
import Derived.Test.YtcodpdpeklammaaGreatDoorGA6
import Derived.StillTail
import Derived.Deep.QuietTactic
import Derived.BigQuiet
import Derived.Test.YtcodpdpeklammaaGreatDoorGA0
namespace Go.Proofs.YtcodpdpeklammaaGreatDoor
set_option linter.unusedVariables false
set_option linter.unusedSimpArgs false
open Go Go.RowKit

theorem inCells_set33 (d : InD) (sv wv sv' : Value) (s' : List Int) (h : d.hash.length = 32) : (inCells d sv wv).set 33 sv' = inCells { d with script := s' } sv' wv := by
  unfold inCells
  rw [List.set_append_right _ _ (by simp [h])]
  simp [h]
theorem inCells_set34 (d : InD) (sv wv : Value) (q : Int) (h : d.hash.length = 32) : (inCells d sv wv).set 34 (.int .u32 q) = inCells { d with seq := q } sv wv := by
  unfold inCells
  rw [List.set_append_right _ _ (by simp [h])]
  simp [h]
theorem inCells_set35 (d : InD) (sv wv wv' : Value) (t' : List (List Int)) (h : d.hash.length = 32) : (inCells d sv wv).set 35 wv' = inCells { d with wit := t' } sv wv' := by
  unfold inCells
  rw [List.set_append_right _ _ (by simp [h])]
  simp [h]
/-- two rows at one place of one length are the same -/
theorem Row.same {w : World} {b off : Nat} {xs ys : List Value} (h : Row w b off xs) (k : Row w b off ys) (hl : xs.length = ys.length) : xs = ys := by
  apply List.ext_getElem hl
  intro i h1 h2
  have a := (h i _ (List.getElem?_eq_getElem h1)).1
  have b := (k i _ (List.getElem?_eq_getElem h2)).1
  rw [a] at b
  exact Option.some.inj b
theorem inCells_inj {d : InD} {sv wv sv' wv' : Value} (h : inCells d sv wv = inCells d sv' wv') : sv = sv' ∧ wv = wv' := by
  unfold inCells at h
  have := List.append_cancel_left h
  simpa using this
theorem RIns.row {S T R : Nat → Prop} {W : World} {g off n cap : Nat} {l : List InD} {cs : List Value} {ps : List (Value × Value)} (h : RIns S T R W (.slice (some ⟨g, off, none⟩) n cap) l cs ps) (hne : 0 < l.length) : Row W g off cs ∧ g < W.heap.size ∧ n = l.length ∧ cs.length = l.length * 36 := by
  obtain ⟨h0, a', cap', e, h2, h3, h4, h5⟩ := h.rd
  cases e
  obtain ⟨g', off', e2, hg, hr⟩ := h5 _ rfl hne
  cases e2
  exact ⟨hr, hg, rfl, h0⟩
theorem seg_set (cs : List Value) (i m k s : Nat) (u : Value) (hk : k < s) : ((cs.set (i * s + k) u).drop (m * s)).take s = if m = i then ((cs.drop (i * s)).take s).set k u else (cs.drop (m * s)).take s := by
  by_cases h : m = i
  · subst h
    rw [if_pos rfl, List.drop_set, if_neg (by omega), List.take_set, show m * s + k - m * s = k by omega]
  · rw [if_neg h]
    by_cases h2 : m < i
    · have h3 : (m + 1) * s ≤ i * s := Nat.mul_le_mul_right _ h2
      rw [Nat.add_mul, Nat.one_mul] at h3
      rw [List.drop_set, if_neg (by omega), List.take_set, List.set_eq_of_length_le (by simp; omega)]
    · have h3 : (i + 1) * s ≤ m * s := Nat.mul_le_mul_right _ (by omega)
      rw [Nat.add_mul, Nat.one_mul] at h3
      rw [List.drop_set_of_lt (by omega)]
theorem RIns.put {S T R : Nat → Prop} {W : World} {g off n cap : Nat} {l : List InD} {cs : List Value} {ps : List (Value × Value)} (h : RIns S T R W (.slice (some ⟨g, off, none⟩) n cap) l cs ps) (i : Nat) (di : InD) (hd : l[i]? = some di) (p : Value × Value) (hp : ps[i]? = some p)
    (k : Nat) (hk : k < 36) (u : Value) (d' : InD) (p' : Value × Value) (hc : (inCells di p.1 p.2).set k u = inCells d' p'.1 p'.2) (hr : RIn S T W p'.1 p'.2 d') (hS : ∀ b, S b → b ≠ g) (hT : ∀ b, T b → b ≠ g) :
    RIns S T R (W.setCell ⟨g, off + i * 36 + k, none⟩ u) (.slice (some ⟨g, off, none⟩) n cap) (l.set i d') (cs.set (i * 36 + k) u) (ps.set i p') := by
  have hil : i < l.length := (List.getElem?_eq_some_iff.1 hd).1
  obtain ⟨hrow, hg, hn, hcl⟩ := h.row (by omega)
  have hx : Chg (· = g) W (W.setCell ⟨g, off + i * 36 + k, none⟩ u) := (Chg.refl (· = g) W).setCell (p := ⟨g, off + i * 36 + k, none⟩) (.inr rfl) u
  have hrow2 := hrow.set (i * 36 + k) (by omega) u
  rw [← Nat.add_assoc] at hrow2
  obtain ⟨h0, a', cap', e, h2, h3, h4, h5⟩ := h.rd
  cases e
  refine ⟨⟨by simp [hcl], _, cap, by rw [List.length_set], by rw [List.length_set]; exact h2, h3, fun e => (by cases e), fun ad e _ => ⟨g, off, (Option.some.inj e).symm, by simpa using hg, hrow2⟩⟩, by simp [h.plen], ?_, by rw [List.length_set]; exact h.small, fun b e => h.foot b e⟩
  intro m q dm hq hdm
  by_cases hm : m = i
  · subst hm
    rw [List.getElem?_set_self (by rw [h.plen]; exact hil)] at hq
    rw [List.getElem?_set_self hil] at hdm
    cases hq; cases hdm
    refine ⟨hr.chg hx (fun b hb e => hS b hb e) (fun b hb e => hT b hb e), ?_⟩
    rw [seg_set _ _ _ _ _ _ hk, if_pos rfl, (h.each m p di hp hd).2]
    exact hc
  · rw [List.getElem?_set_ne (Ne.symm hm)] at hq hdm
    obtain ⟨e1, e2⟩ := h.each m q dm hq hdm
    refine ⟨e1.chg hx (fun b hb e => hS b hb e) (fun b hb e => hT b hb e), ?_⟩
    rw [seg_set _ _ _ _ _ _ hk, if_neg hm]
    exact e2
theorem ApartW.set {ps : List (Value × Value)} (h : ApartW ps) (i : Nat) (p p' : Value × Value) (hp : ps[i]? = some p) (hb : p'.2.ownBlock = p.2.ownBlock ∨ p'.2.ownBlock = none) : ApartW (ps.set i p') := by
  have hi : i < ps.length := (List.getElem?_eq_some_iff.1 hp).1
  have back : ∀ (m : Nat) (q : Value × Value), (ps.set i p')[m]? = some q → ∃ q0, ps[m]? = some q0 ∧ ∀ g, q.2.ownBlock = some g → q0.2.ownBlock = some g := fun m q hq => by
    by_cases hm : i = m
    · subst hm
      rw [List.getElem?_set_self hi] at hq
      cases hq
      refine ⟨p, hp, fun g e => ?_⟩
      rcases hb with hb | hb
      · rw [← hb]; exact e
      · rw [hb] at e; cases e
    · rw [List.getElem?_set_ne hm] at hq
      exact ⟨q, hq, fun g e => e⟩
  intro a b q r hab hq hr g e e2
  obtain ⟨q0, h1, h2⟩ := back a q hq
  obtain ⟨r0, h3, h4⟩ := back b r hr
  exact h a b q0 r0 hab h1 h3 g (h2 g e) (h4 g e2)
theorem Chg.cell {W : World} (g o : Nat) (u : Value) : Chg (· = g) W (W.setCell ⟨g, o, none⟩ u) := (Chg.refl (· = g) W).setCell (p := ⟨g, o, none⟩) (.inr rfl) u
/-- which pair an input's row tells -/
theorem RIns.pair {S T R : Nat → Prop} {W : World} {g off n cap : Nat} {l : List InD} {cs : List Value} {ps : List (Value × Value)} (h : RIns S T R W (.slice (some ⟨g, off, none⟩) n cap) l cs ps) {i : Nat} {di : InD} (hd : l[i]? = some di) {sv wv : Value} (hrow : Row W g (off + i * 36) (inCells di sv wv)) : ps[i]? = some (sv, wv) := by
  have hil : i < l.length := (List.getElem?_eq_some_iff.1 hd).1
  obtain ⟨hr, hg, hn, hcl⟩ := h.row (by omega)
  have hp : ps[i]? = some (ps[i]'(by rw [h.plen]; exact hil)) := List.getElem?_eq_getElem (by rw [h.plen]; exact hil)
  obtain ⟨e1, e2⟩ := h.each i _ di hp hd
  have h3 := (hr.drop (i * 36)).take 36
  rw [e2] at h3
  have h4 := Row.same hrow h3 (by rw [inCells_length _ _ _ e1.ok.hashLen, inCells_length _ _ _ e1.ok.hashLen])
  obtain ⟨e3, e4⟩ := inCells_inj h4
  rw [hp, e3, e4]
theorem OwnTx.putIn {S T : Nat → Prop} {base : Nat} {W : World} {g off n cap : Nat} {ov : Value} {d : TxD} (h : OwnTx S T base W (.slice (some ⟨g, off, none⟩) n cap) ov d) {i : Nat} {di : InD} {sv wv : Value} (hd : d.ins[i]? = some di) (hrow : Row W g (off + i * 36) (inCells di sv wv))
    (k : Nat) (u : Value) (d' : InD) (sv' wv' : Value) (hk : k < 36) (hc : (inCells di sv wv).set k u = inCells d' sv' wv') (hr : RIn S T W sv' wv' d') (hb : wv'.ownBlock = wv.ownBlock ∨ wv'.ownBlock = none) :
    OwnTx S T base (W.setCell ⟨g, off + i * 36 + k, none⟩ u) (.slice (some ⟨g, off, none⟩) n cap) ov { d with ins := d.ins.set i d' } := by
  obtain ⟨hver, hlock, ⟨cs, ps, hi, ha⟩, ho, hf, hst, hia, hoa, hio⟩ := h
  have hp := hi.pair hd hrow
  have hS : ∀ b, S b → b ≠ g := fun b hb e => hia b (.inl hb) (by rw [e]; rfl)
  have hT : ∀ b, T b → b ≠ g := fun b hb e => hia b (.inr hb) (by rw [e]; rfl)
  have hx := Chg.cell (W := W) g (off + i * 36 + k) u
  exact ⟨hver, hlock, ⟨_, _, hi.put i di hd (sv, wv) hp k hk u d' (sv', wv') hc hr hS hT, ha.set i _ _ hp hb⟩, ho.chg hx (fun b hb e => hS b hb e) (fun b hb e => hio g rfl (by rw [← e]; exact hb)),
    fun b hb => ⟨(hf b hb).1, Nat.lt_of_lt_of_le (hf b hb).2 hx.size⟩, hst, hia, hoa, hio⟩
/-- an item of an input written anew -/
theorem RIn.other {S T : Nat → Prop} {W W' : World} {sv wv : Value} {d : InD} {g : Nat} (h : RIn S T W sv wv d) (hx : Chg (· = g) W W') (hS : ∀ b, S b → b ≠ g) (hw : wv.ownBlock ≠ some g) : RIn S T W' sv wv d := by
  obtain ⟨ho, hs, vs, hl⟩ := h
  exact ⟨ho, hs.chg hx (fun b hb e => hS b hb e), vs, ⟨hl.rd.chg hx (fun b hb e => hw (by rw [hb, e])), fun i u l hu hl' => (hl.each i u l hu hl').chg hx (fun b hb e => hS b hb e), hl.small, hl.foot⟩⟩
theorem RIn.putItem {S T : Nat → Prop} {W : World} {sv : Value} {d : InD} {gw ow m c : Nat} (h : RIn S T W sv (.slice (some ⟨gw, ow, none⟩) m c) d) (j : Nat) (hj : j < d.wit.length) (u : Value) (l' : List Int) (hu : RB S W u l') (hS : ∀ b, S b → b ≠ gw) :
    RIn S T (W.setCell ⟨gw, ow + j, none⟩ u) sv (.slice (some ⟨gw, ow, none⟩) m c) { d with wit := d.wit.set j l' } := by
  have hx := Chg.cell (W := W) gw (ow + j) u
  have hSx : ∀ b, S b → ¬ b = gw := hS
  obtain ⟨ho, hs, vs, hl⟩ := h
  have hlen := hl.len
  obtain ⟨h0, a', cap', e, h2, h3, h4, h5⟩ := hl.rd
  cases e
  obtain ⟨g', off', e2, hg, hr⟩ := h5 _ rfl (by omega)
  cases e2
  have hr2 := hr.set j (by omega) u
  refine ⟨⟨ho.hashLen, ho.hash, ho.index, ho.seq⟩, hs.chg hx hSx, vs.set j u, ⟨⟨by simp [hlen], _, c, by rw [List.length_set], by rw [List.length_set]; exact h2, h3, fun e => (by cases e), fun ad e _ => ⟨gw, ow, (Option.some.inj e).symm, by simpa using hg, hr2⟩⟩, ?_, by rw [List.length_set]; exact hl.small, fun b e => hl.foot b e⟩⟩
  intro i x lx hxx hlx
  by_cases hi : j = i
  · subst hi
    rw [List.getElem?_set_self (by omega)] at hxx hlx
    cases hxx; cases hlx
    exact hu.chg hx hSx
  · rw [List.getElem?_set_ne hi] at hxx hlx
    exact (hl.each i x lx hxx hlx).chg hx hSx
theorem OwnTx.putItem {S T : Nat → Prop} {base : Nat} {W : World} {g off n cap gw ow m c : Nat} {ov : Value} {d : TxD} (h : OwnTx S T base W (.slice (some ⟨g, off, none⟩) n cap) ov d) {i : Nat} {di : InD} {sv : Value} (hd : d.ins[i]? = some di) (hrow : Row W g (off + i * 36) (inCells di sv (.slice (some ⟨gw, ow, none⟩) m c)))
    (hr : RIn S T W sv (.slice (some ⟨gw, ow, none⟩) m c) di) (j : Nat) (hj : j < di.wit.length) (u : Value) (l' : List Int) (hu : RB S W u l') :
    OwnTx S T base (W.setCell ⟨gw, ow + j, none⟩ u) (.slice (some ⟨g, off, none⟩) n cap) ov { d with ins := d.ins.set i { di with wit := di.wit.set j l' } } := by
  obtain ⟨hver, hlock, ⟨cs, ps, hi, ha⟩, ho, hf, hst, hia, hoa, hio⟩ := h
  have hp := hi.pair hd hrow
  have hTg : T gw := hr.wit.foot gw rfl
  have hS : ∀ b, S b → b ≠ gw := fun b hb e => hst b hb (by rw [e]; exact hTg)
  have hgw : g ≠ gw := fun e => hia gw (.inr hTg) (by rw [← e]; rfl)
  have hx := Chg.cell (W := W) gw (ow + j) u
  have hil : i < d.ins.length := (List.getElem?_eq_some_iff.1 hd).1
  refine ⟨hver, hlock, ⟨cs, ps, ⟨?_, by simp [hi.plen], ?_, by simpa using hi.small, hi.foot⟩, ha⟩, ho.chg hx (fun b hb e => hS b hb e) (fun b hb e => hoa gw (.inr hTg) (by rw [← e]; exact hb)),
    fun b hb => ⟨(hf b hb).1, Nat.lt_of_lt_of_le (hf b hb).2 hx.size⟩, hst, hia, hoa, hio⟩
  · have := hi.rd.chg hx (fun b e e2 => hgw (by have h9 : some g = some b := e; cases h9; exact e2))
    simpa using this
  · intro k q dk hq hdk
    by_cases hk : i = k
    · subst hk
      rw [hp] at hq
      rw [List.getElem?_set_self hil] at hdk
      cases hq; cases hdk
      exact ⟨hr.putItem j hj u l' hu hS, by have := (hi.each i _ di hp hd).2; exact this⟩
    · rw [List.getElem?_set_ne hk] at hdk
      obtain ⟨e1, e2⟩ := hi.each k q dk hq hdk
      exact ⟨e1.other hx hS (fun e => ha k i q _ (Ne.symm hk) hq hp gw e rfl), e2⟩
theorem OwnTx.takeIns {S T : Nat → Prop} {base : Nat} {W : World} {a : Option Addr} {n cap : Nat} {ov : Value} {d : TxD} (h : OwnTx S T base W (.slice a n cap) ov d) (m : Nat) (hm : m ≤ d.ins.length) : OwnTx S T base W (.slice a m cap) ov { d with ins := d.ins.take m } := by
  obtain ⟨hver, hlock, ⟨cs, ps, hi, ha⟩, ho, hf, hst, hia, hoa, hio⟩ := h
  have hob : (Value.slice a m cap).ownBlock = (Value.slice a n cap).ownBlock := by cases a <;> rfl
  have hml : (d.ins.take m).length = m := by simp; omega
  have hml2 : ({ d with ins := d.ins.take m } : TxD).ins.length = m := hml
  refine ⟨hver, hlock, ⟨cs.take (m * 36), ps.take m, ⟨?_, by simp [hi.plen], ?_, by rw [hml]; have := hi.small; omega, fun b e => e⟩, ?_⟩, ho, fun b hb => hf b (by rw [← hob]; exact hb), hst, fun b hb => by rw [hob]; exact hia b hb, hoa, fun b e => hio b (by rw [← hob]; exact e)⟩
  · obtain ⟨h0, a', cap', e, h2, h3, h4, h5⟩ := hi.rd
    cases e
    refine ⟨by rw [hml2]; simp; omega, a, cap, by rw [hml2], by rw [hml2]; omega, h3, fun e => by have := h4 e; rw [hml2]; omega, fun ad e hn => ?_⟩
    rw [hml2] at hn
    obtain ⟨g, off, e2, hg, hr⟩ := h5 ad e (by omega)
    exact ⟨g, off, e2, hg, hr.take _⟩
  · intro i p di hp hd
    rw [List.getElem?_take] at hp hd
    split at hp
    · rename_i him
      rw [if_pos him] at hd
      obtain ⟨e1, e2⟩ := hi.each i p di hp hd
      refine ⟨e1, ?_⟩
      have h3 : (i + 1) * 36 ≤ m * 36 := Nat.mul_le_mul_right _ him
      rw [List.drop_take, List.take_take, Nat.min_eq_left (by omega)]
      exact e2
    · cases hp
  · intro i k p q hik hp hq
    rw [List.getElem?_take] at hp hq
    split at hp
    · split at hq
      · exact ha i k p q hik hp hq
      · cases hq
    · cases hp
theorem outCells_inj {d : OutD} {sv sv' : Value} (h : outCells d sv = outCells d sv') : sv = sv' := by simpa [outCells] using h
theorem OwnTx.putOut {S T : Nat → Prop} {base : Nat} {W : World} {g off n cap : Nat} {iv : Value} {d : TxD} (h : OwnTx S T base W iv (.slice (some ⟨g, off, none⟩) n cap) d) {i : Nat} {di : OutD} {sv : Value} (hd : d.outs[i]? = some di) (hrow : Row W g (off + i * 2) (outCells di sv))
    (k : Nat) (u : Value) (d' : OutD) (sv' : Value) (hk : k < 2) (hc : (outCells di sv).set k u = outCells d' sv') (hr : RB S W sv' d'.script) (hv : I64 d'.value) :
    OwnTx S T base (W.setCell ⟨g, off + i * 2 + k, none⟩ u) iv (.slice (some ⟨g, off, none⟩) n cap) { d with outs := d.outs.set i d' } := by
  obtain ⟨hver, hlock, hi, ⟨cs, ps, ho⟩, hf, hst, hia, hoa, hio⟩ := h
  have hil : i < d.outs.length := (List.getElem?_eq_some_iff.1 hd).1
  have hS : ∀ b, S b → b ≠ g := fun b hb e => hoa b (.inl hb) (by rw [e]; rfl)
  have hT : ∀ b, T b → b ≠ g := fun b hb e => hoa b (.inr hb) (by rw [e]; rfl)
  have hx := Chg.cell (W := W) g (off + i * 2 + k) u
  obtain ⟨h0, a', cap', e, h2, h3, h4, h5⟩ := ho.rd
  cases e
  obtain ⟨g', off', e2, hg, hrw⟩ := h5 _ rfl (by omega)
  cases e2
  have hrow2 := hrw.set (i * 2 + k) (by omega) u
  rw [← Nat.add_assoc] at hrow2
  have hpl := ho.plen
  have hp : ps[i]? = some (ps[i]'(by omega)) := List.getElem?_eq_getElem (by omega)
  have e9 := (ho.each i _ di hp hd).2.2
  have h8 := (hrw.drop (i * 2)).take 2
  rw [e9] at h8
  have h7 := outCells_inj (Row.same hrow h8 rfl)
  refine ⟨hver, hlock, hi.chg hx (fun b hb e => hS b hb e) (fun b hb e => hT b hb e) (fun b hb e => hio b hb (by rw [e]; rfl)), ⟨cs.set (i * 2 + k) u, ps.set i sv', ⟨⟨by simp; omega, _, cap, by rw [List.length_set], by rw [List.length_set]; exact h2, h3, fun e => (by cases e), fun ad e _ => ⟨g, off, (Option.some.inj e).symm, by simpa using hg, hrow2⟩⟩, by simp [hpl], ?_, by rw [List.length_set]; exact ho.small, fun b e => ho.foot b e⟩⟩,
    fun b hb => ⟨(hf b hb).1, Nat.lt_of_lt_of_le (hf b hb).2 hx.size⟩, hst, hia, hoa, hio⟩
  intro m q dm hq hdm
  by_cases hm : m = i
  · subst hm
    rw [List.getElem?_set_self (by omega)] at hq
    rw [List.getElem?_set_self hil] at hdm
    cases hq; cases hdm
    refine ⟨hr.chg hx (fun b hb e => hS b hb e), hv, ?_⟩
    rw [seg_set _ _ _ _ _ _ hk, if_pos rfl, e9, ← h7]
    exact hc
  · rw [List.getElem?_set_ne (Ne.symm hm)] at hq hdm
    obtain ⟨e1, e3, e2⟩ := ho.each m q dm hq hdm
    refine ⟨e1.chg hx (fun b hb e => hS b hb e), e3, ?_⟩
    rw [seg_set _ _ _ _ _ _ hk, if_neg hm]
    exact e2
theorem OwnTx.takeOuts {S T : Nat → Prop} {base : Nat} {W : World} {a : Option Addr} {n cap : Nat} {iv : Value} {d : TxD} (h : OwnTx S T base W iv (.slice a n cap) d) (m : Nat) (hm : m ≤ d.outs.length) : OwnTx S T base W iv (.slice a m cap) { d with outs := d.outs.take m } := by
  obtain ⟨hver, hlock, hi, ⟨cs, ps, ho⟩, hf, hst, hia, hoa, hio⟩ := h
  have hob : (Value.slice a m cap).ownBlock = (Value.slice a n cap).ownBlock := by cases a <;> rfl
  have hml : (d.outs.take m).length = m := by simp; omega
  have hml2 : ({ d with outs := d.outs.take m } : TxD).outs.length = m := hml
  refine ⟨hver, hlock, hi, ⟨cs.take (m * 2), ps.take m, ⟨?_, by simp [ho.plen], ?_, by rw [hml]; have := ho.small; omega, fun b e => e⟩⟩, fun b hb => hf b (by rw [← hob]; exact hb), hst, hia, fun b hb => by rw [hob]; exact hoa b hb, fun b e => by rw [hob]; exact hio b e⟩
  · obtain ⟨h0, a', cap', e, h2, h3, h4, h5⟩ := ho.rd
    cases e
    refine ⟨by rw [hml2]; simp; omega, a, cap, by rw [hml2], by rw [hml2]; omega, h3, fun e => by have := h4 e; rw [hml2]; omega, fun ad e hn => ?_⟩
    rw [hml2] at hn
    obtain ⟨g, off, e2, hg, hr⟩ := h5 ad e (by omega)
    exact ⟨g, off, e2, hg, hr.take _⟩
  · intro i p di hp hd
    rw [List.getElem?_take] at hp hd
    split at hp
    · rename_i him
      rw [if_pos him] at hd
      obtain ⟨e1, e3, e2⟩ := ho.each i p di hp hd
      refine ⟨e1, e3, ?_⟩
      have h3 : (i + 1) * 2 ≤ m * 2 := Nat.mul_le_mul_right _ him
      rw [List.drop_take, List.take_take, Nat.min_eq_left (by omega)]
      exact e2
    · cases hp
def upto {α : Type} (f : α → α) (i : Nat) (l : List α) : List α := (l.take i).map f ++ l.drop i
theorem upto_zero {α : Type} (f : α → α) (l : List α) : upto f 0 l = l := by simp [upto]
theorem upto_length {α : Type} (f : α → α) (i : Nat) (l : List α) : (upto f i l).length = l.length := by simp [upto]; omega
theorem upto_all {α : Type} (f : α → α) (l : List α) : upto f l.length l = l.map f := by simp [upto]
theorem upto_get {α : Type} (f : α → α) (i : Nat) (l : List α) (x : α) (h : l[i]? = some x) : (upto f i l)[i]? = some x := by
  have hi := (List.getElem?_eq_some_iff.1 h).1
  unfold upto
  rw [List.getElem?_append_right (by simp; omega)]
  simp only [List.length_map, List.length_take, Nat.min_eq_left (Nat.le_of_lt hi), Nat.sub_self, List.getElem?_drop, Nat.add_zero]
  exact h
theorem upto_step {α : Type} (f : α → α) (i : Nat) (l : List α) (x : α) (h : l[i]? = some x) : (upto f i l).set i (f x) = upto f (i + 1) l := by
  have hi := (List.getElem?_eq_some_iff.1 h).1
  unfold upto
  rw [List.set_append_right _ _ (by simp; omega), List.take_add_one, h]
  have e : (l.drop i) = x :: l.drop (i + 1) := by
    rw [List.drop_eq_getElem_cons hi]
    congr 1
    exact (List.getElem?_eq_some_iff.1 h).2
  rw [e]
  simp [Nat.min_eq_left (Nat.le_of_lt hi)]
theorem set_self {α : Type} (l : List α) (i : Nat) (x : α) (h : l[i]? = some x) : l.set i x = l := by
  obtain ⟨hi, e⟩ := List.getElem?_eq_some_iff.1 h
  apply List.ext_getElem?
  intro j
  by_cases hj : i = j
  · subst hj; rw [List.getElem?_set_self hi, h]
  · rw [List.getElem?_set_ne hj]
theorem upto_skip {α : Type} (f : α → α) (i : Nat) (l : List α) (x : α) (h : l[i]? = some x) (hf : f x = x) : upto f (i + 1) l = upto f i l := by
  rw [← upto_step f i l x h, hf]; exact set_self _ i x (upto_get f i l x h)
theorem at_free {w : World} {b o : Nat} {d : InD} {sv wv : Value} (h : Row w b o (inCells d sv wv)) (hl : d.hash.length = 32) :
    w.frozen? ⟨b, o + 33, none⟩ = false ∧ w.frozen? ⟨b, o + 35, none⟩ = false ∧ w.frozen? ⟨b, o + 34, none⟩ = false := by
  refine ⟨(h 33 sv ?_).2, (h 35 wv ?_).2, (h 34 (.int .u32 d.seq) ?_).2⟩ <;> (unfold inCells; rw [List.getElem?_append_right (by simp [hl])]; simp [hl])
def trimIn (n b : Nat) (d : InD) : InD := { d with script := d.script.take b, wit := (d.wit.take n).map (List.take b) }
def trimOut (b : Nat) (d : OutD) : OutD := { d with script := d.script.take b }
def fewD (n b : Nat) (d : TxD) : TxD := { d with ins := (d.ins.take n).map (trimIn n b), outs := (d.outs.take n).map (trimOut b) }
theorem OwnTx.at {S T : Nat → Prop} {base : Nat} {W : World} {a : Option Addr} {n cap : Nat} {ov : Value} {d : TxD} (h : OwnTx S T base W (.slice a n cap) ov d) {i : Nat} {di : InD} (hd : d.ins[i]? = some di) :
    ∃ g off sv wv, a = some ⟨g, off, none⟩ ∧ g < W.heap.size ∧ Row W g (off + i * 36) (inCells di sv wv) ∧ RIn S T W sv wv di := by
  have hil := (List.getElem?_eq_some_iff.1 hd).1
  obtain ⟨g, off, sv, wv, d', h1, h2, h3, h4, h5⟩ := h.ins.x.at i hil
  rw [hd] at h3
  cases h3
  exact ⟨g, off, sv, wv, h1, h2, h4, h5⟩
theorem OwnTx.atOut {S T : Nat → Prop} {base : Nat} {W : World} {a : Option Addr} {n cap : Nat} {iv : Value} {d : TxD} (h : OwnTx S T base W iv (.slice a n cap) d) {i : Nat} {di : OutD} (hd : d.outs[i]? = some di) :
    ∃ g off sv, a = some ⟨g, off, none⟩ ∧ g < W.heap.size ∧ Row W g (off + i * 2) (outCells di sv) ∧ RB S W sv di.script ∧ I64 di.value := by
  have hil := (List.getElem?_eq_some_iff.1 hd).1
  obtain ⟨g, off, sv, d', h1, h2, h3, h4, h5⟩ := h.outs.at i hil
  rw [hd] at h3
  cases h3
  exact ⟨g, off, sv, h1, h2, h4, h5⟩
theorem RLL.take {S T : Nat → Prop} {w : World} {a : Option Addr} {n cap : Nat} {ls : List (List Int)} (h : RLL S T w (.slice a n cap) ls) (m : Nat) (hm : m ≤ ls.length) : RLL S T w (.slice a m cap) (ls.take m) := by
  obtain ⟨vs, hrd, he, hs, hf⟩ := h
  obtain ⟨h0, a', cap', e, h2, h3, h4, h5⟩ := hrd
  cases e
  have hl : (ls.take m).length = m := by simp; omega
  refine ⟨vs.take m, ⟨by simp; omega, a, cap, by rw [hl], by omega, h3, fun e => by have := h4 e; omega, fun ad e hn => ?_⟩, fun i u l hu hl' => ?_, by omega, fun g e => hf g (by cases a with | none => simp [Value.ownBlock] at e | some _ => simpa [Value.ownBlock] using e)⟩
  · obtain ⟨g, off, e2, hg, hr⟩ := h5 ad e (by omega)
    exact ⟨g, off, e2, hg, hr.take _⟩
  · rw [List.getElem?_take] at hu hl'
    split at hu
    · rename_i him
      rw [if_pos him] at hl'
      exact he i u l hu hl'
    · cases hu
/-- where Few stands: the box at p holds the transaction of one's own -/
structure FewSt (S T : Nat → Prop) (base : Nat) (w W : World) (p : Nat) (iv ov : Value) (d : TxD) : Prop where
  keeps : Keeps w W
  row : Row W p 0 [.int .i32 d.ver, iv, ov, .int .u32 d.lock]
  own : OwnTx S T base W iv ov d
  low : w.heap.size ≤ p ∧ p < base
theorem FewSt.drewN {S T : Nat → Prop} {base : Nat} {w W : World} {p : Nat} {iv ov : Value} {d : TxD} (h : FewSt S T base w W p iv ov d) (n : Nat) : FewSt S T base w (W.drewN n) p iv ov d :=
  ⟨h.keeps.trans (Qt.drewN W n).keeps, h.row, h.own.keeps (Qt.drewN W n).keeps, h.low⟩
/-- a store into a block of the transaction's own -/
theorem FewSt.put {S T : Nat → Prop} {base : Nat} {w W : World} {p : Nat} {iv ov : Value} {d d' : TxD} (h : FewSt S T base w W p iv ov d) (g o : Nat) (u : Value) (hg : base ≤ g) (h' : OwnTx S T base (W.setCell ⟨g, o, none⟩ u) iv ov d') (e1 : d'.ver = d.ver) (e2 : d'.lock = d.lock) : FewSt S T base w (W.setCell ⟨g, o, none⟩ u) p iv ov d' :=
  ⟨keeps_chg h.keeps (Chg.cell g o u) (by have := h.low; omega), by rw [e1, e2]; exact h.row.other (by have := h.low; show p ≠ g; omega) u, h', h.low⟩
theorem FewSt.box1 {S T : Nat → Prop} {base : Nat} {w W : World} {p : Nat} {iv ov iv' : Value} {d d' : TxD} (h : FewSt S T base w W p iv ov d) (h' : OwnTx S T base W iv' ov d') (e1 : d'.ver = d.ver) (e2 : d'.lock = d.lock) : FewSt S T base w (W.setCell ⟨p, 1, none⟩ iv') p iv' ov d' :=
  ⟨keeps_chg h.keeps (Chg.cell p 1 iv') h.low.1, by have := h.row.set 1 (by simp) iv'; rw [e1, e2]; simpa using this, h'.chg (Chg.cell p 1 iv') (fun g e => .inl (by have := h.low; omega)), h.low⟩
theorem FewSt.box2 {S T : Nat → Prop} {base : Nat} {w W : World} {p : Nat} {iv ov ov' : Value} {d d' : TxD} (h : FewSt S T base w W p iv ov d) (h' : OwnTx S T base W iv ov' d') (e1 : d'.ver = d.ver) (e2 : d'.lock = d.lock) : FewSt S T base w (W.setCell ⟨p, 2, none⟩ ov') p iv ov' d' :=
  ⟨keeps_chg h.keeps (Chg.cell p 2 ov') h.low.1, by have := h.row.set 2 (by simp) ov'; rw [e1, e2]; simpa using this, h'.chg (Chg.cell p 2 ov') (fun g e => .inl (by have := h.low; omega)), h.low⟩
theorem FewSt.cells {S T : Nat → Prop} {base : Nat} {w W : World} {p : Nat} {iv ov : Value} {d : TxD} (h : FewSt S T base w W p iv ov d) : W.cell? ⟨p, 0, none⟩ = some (.int .i32 d.ver) ∧ W.cell? ⟨p, 1, none⟩ = some iv ∧ W.cell? ⟨p, 2, none⟩ = some ov ∧ W.cell? ⟨p, 3, none⟩ = some (.int .u32 d.lock) := h.row.cell4
theorem FewSt.free {S T : Nat → Prop} {base : Nat} {w W : World} {p : Nat} {iv ov : Value} {d : TxD} (h : FewSt S T base w W p iv ov d) : W.frozen? ⟨p, 1, none⟩ = false ∧ W.frozen? ⟨p, 2, none⟩ = false := by
  refine ⟨?_, ?_⟩
  · have := (h.row 1 _ rfl).2; simpa using this
  · have := (h.row 2 _ rfl).2; simpa using this
theorem FewSt.same {S T : Nat → Prop} {base : Nat} {w W : World} {p : Nat} {iv ov iv' ov' : Value} {d d' : TxD} (h : FewSt S T base w W p iv ov d) (e1 : iv = iv') (e2 : ov = ov') (e3 : d = d') : FewSt S T base w W p iv' ov' d' := by subst e1 e2 e3; exact h
theorem FewSt.at {S T : Nat → Prop} {base : Nat} {w W : World} {p g off n cap : Nat} {ov : Value} {d : TxD} (h : FewSt S T base w W p (.slice (some ⟨g, off, none⟩) n cap) ov d) : base ≤ g := (h.own.fresh g (.inr (.inr (.inl rfl)))).1
theorem FewSt.cutScript {S T : Nat → Prop} {base : Nat} {w W : World} {p g off n cap : Nat} {ov : Value} {d : TxD} (h : FewSt S T base w W p (.slice (some ⟨g, off, none⟩) n cap) ov d) {i : Nat} {di : InD} {a : Option Addr} {m c : Nat} {wv : Value} (hd : d.ins[i]? = some di) (hrow : Row W g (off + i * 36) (inCells di (.slice a m c) wv)) (hr : RIn S T W (.slice a m c) wv di) (k : Nat) (hk : k ≤ di.script.length) (nq : Nat) :
    FewSt S T base w ((W.drewN nq).setCell ⟨g, off + i * 36 + 33, none⟩ (.slice a k c)) p (.slice (some ⟨g, off, none⟩) n cap) ov { d with ins := d.ins.set i { di with script := di.script.take k } } := by
  have hr' := hr.keeps (Qt.drewN W nq).keeps
  exact (h.drewN nq).put g _ _ h.at ((h.drewN nq).own.putIn hd (hrow.drewN nq) 33 _ { di with script := di.script.take k } (.slice a k c) wv (by omega) (inCells_set33 _ _ _ _ _ hr.ok.hashLen) ⟨⟨hr.ok.hashLen, hr.ok.hash, hr.ok.index, hr.ok.seq⟩, hr'.script.take k hk, hr'.wit⟩ (.inl rfl)) rfl rfl
theorem FewSt.cutWit {S T : Nat → Prop} {base : Nat} {w W : World} {p g off n cap : Nat} {ov : Value} {d : TxD} (h : FewSt S T base w W p (.slice (some ⟨g, off, none⟩) n cap) ov d) {i : Nat} {di : InD} {a : Option Addr} {m c : Nat} {sv : Value} (hd : d.ins[i]? = some di) (hrow : Row W g (off + i * 36) (inCells di sv (.slice a m c))) (hr : RIn S T W sv (.slice a m c) di) (k : Nat) (hk : k ≤ di.wit.length) (nq : Nat) :
    FewSt S T base w ((W.drewN nq).setCell ⟨g, off + i * 36 + 35, none⟩ (.slice a k c)) p (.slice (some ⟨g, off, none⟩) n cap) ov { d with ins := d.ins.set i { di with wit := di.wit.take k } } := by
  have hr' := hr.keeps (Qt.drewN W nq).keeps
  exact (h.drewN nq).put g _ _ h.at ((h.drewN nq).own.putIn hd (hrow.drewN nq) 35 _ { di with wit := di.wit.take k } sv (.slice a k c) (by omega) (inCells_set35 _ _ _ _ _ hr.ok.hashLen) ⟨⟨hr.ok.hashLen, hr.ok.hash, hr.ok.index, hr.ok.seq⟩, hr'.script, hr'.wit.take k hk⟩ (.inl (by cases a <;> rfl))) rfl rfl
theorem FewSt.cutItem {S T : Nat → Prop} {base : Nat} {w W : World} {p g off n cap gw ow m c : Nat} {ov : Value} {d : TxD} (h : FewSt S T base w W p (.slice (some ⟨g, off, none⟩) n cap) ov d) {i : Nat} {di : InD} {sv : Value} (hd : d.ins[i]? = some di) (hrow : Row W g (off + i * 36) (inCells di sv (.slice (some ⟨gw, ow, none⟩) m c))) (hr : RIn S T W sv (.slice (some ⟨gw, ow, none⟩) m c) di)
    (j : Nat) (hj : j < di.wit.length) (a : Option Addr) (x y : Nat) (l : List Int) (hu : RB S W (.slice a x y) l) (k : Nat) (hk : k ≤ l.length) (nq : Nat) :
    FewSt S T base w ((W.drewN nq).setCell ⟨gw, ow + j, none⟩ (.slice a k y)) p (.slice (some ⟨g, off, none⟩) n cap) ov { d with ins := d.ins.set i { di with wit := di.wit.set j (l.take k) } } := by
  have hr' := hr.keeps (Qt.drewN W nq).keeps
  have hu' := hu.keeps (Qt.drewN W nq).keeps
  exact (h.drewN nq).put gw _ _ (h.own.fresh gw (.inr (.inl (hr.wit.foot gw rfl)))).1 ((h.drewN nq).own.putItem hd (hrow.drewN nq) hr' j hj _ (l.take k) (hu'.take k hk)) rfl rfl
theorem FewSt.cutOut {S T : Nat → Prop} {base : Nat} {w W : World} {p g off n cap : Nat} {iv : Value} {d : TxD} (h : FewSt S T base w W p iv (.slice (some ⟨g, off, none⟩) n cap) d) {i : Nat} {di : OutD} {a : Option Addr} {m c : Nat} (hd : d.outs[i]? = some di) (hrow : Row W g (off + i * 2) (outCells di (.slice a m c))) (hr : RB S W (.slice a m c) di.script) (hv : I64 di.value) (k : Nat) (hk : k ≤ di.script.length) (nq : Nat) :
    FewSt S T base w ((W.drewN nq).setCell ⟨g, off + i * 2 + 1, none⟩ (.slice a k c)) p iv (.slice (some ⟨g, off, none⟩) n cap) { d with outs := d.outs.set i { di with script := di.script.take k } } := by
  have hr' := hr.keeps (Qt.drewN W nq).keeps
  exact (h.drewN nq).put g _ _ (h.own.fresh g (.inr (.inr (.inr rfl)))).1 ((h.drewN nq).own.putOut hd (hrow.drewN nq) 1 _ { di with script := di.script.take k } (.slice a k c) (by omega) rfl (hr'.take k hk) hv) rfl rfl
/-- blocks of the transaction's own are not the box, nor what lies below -/
theorem FewSt.apart {S T : Nat → Prop} {base : Nat} {w W : World} {p g o q : Nat} {u : Value} {vs : List Value} (hg : base ≤ g) (hq : q < base) (nq : Nat) (h : Row W q 0 vs) : Row ((W.drewN nq).setCell ⟨g, o, none⟩ u) q 0 vs := (h.drewN nq).other (by show q ≠ g; omega) u
theorem OwnTx.same {S T : Nat → Prop} {base : Nat} {W : World} {iv ov : Value} {d d' : TxD} (h : OwnTx S T base W iv ov d) (e : d = d') : OwnTx S T base W iv ov d' := by subst e; exact h
end Go.Proofs.YtcodpdpeklammaaGreatDoor
namespace Go.Proofs.YtcodpdpeklammaaGreatDoor
set_option linter.unusedVariables false
set_option linter.unusedSimpArgs false
open Go
section
variable {P : Program} {ops : Array Oper} {md : Region.Mode} {C : World → Prop}
def wpAnyQL (P : Program) (md : Region.Mode) (ops : Array Oper) (C : World → Prop) (n : Nat) (L : Array Bool → Act → Prop) : Nat → Array Bool → Act → Prop
  | 0, listed, a => L listed a
  | f + 1, listed, a =>
    Region.ready md ops listed ≠ [] ∧ ∀ i ∈ Region.ready md ops listed, i < n ∧ qOp P ops C i (wpAnyQL P md ops C n L f (listed.setIfInBounds i true)) a
theorem wpAny_of_qhead {n g : Nat} {L : Array Bool → Act → Prop} {Q' : Exit → Act → World → Prop} (hL : ∀ listed a w, C w → L listed a → wpAny P md ops Q' g listed a w) :
    ∀ (f : Nat) (listed : Array Bool) (a : Act) (w : World), C w → wpAnyQL P md ops C n L f listed a → wpAny P md ops Q' (f + g) listed a w
  | 0, listed, a, w, hw, h => by rw [Nat.zero_add]; exact hL _ _ _ hw h
  | f + 1, listed, a, w, hw, h => by
    rw [show f + 1 + g = (f + g) + 1 by omega]
    exact ⟨fun h0 => absurd h0 h.1, fun i hi => wpOp_of_qOp hw (fun a' w' hw' h' => wpAny_of_qhead hL f _ a' w' hw' h') (h.2 i hi).2⟩
theorem wpAnyQL_first {n i : Nat} {oi : Oper} {v : Value} {L : Array Bool → Act → Prop} (hi : ops[i]? = some oi) (hsel : ∀ (j : Nat) (o : Oper) cs b, ops[j]? = some o → o.op ≠ .select cs b)
    (hs : Region.sinkB md ops n = true) (hc : Region.chainB md ops n = true) (hn : n < ops.size) (hin : i < n)
    (hdone : ∀ listed a, L listed a → ∀ j ∈ Region.ready md ops listed, n ≤ j) :
    ∀ (f : Nat) (listed : Array Bool) (a : Act), HeadInv md ops n listed →
      (∀ j oj, ops[j]? = some oj → j ≠ i → listed.getD j true = false → (∀ e ∈ oj.after, Region.binds md e = true → e.on ≠ i) → oi.apart ops oj = true) →
      i ∈ Region.ready md ops listed → YieldsIn P ops C oi v a →
      wpAnyQL P md ops C n L f (listed.setIfInBounds i true) (a.put oi.dst v) → wpAnyQL P md ops C n L (f + 1) listed a := by
  intro f
  induction f with
  | zero =>
    intro listed a inv _ hr hy H
    have hun := (mem_ready.1 hr).1
    refine ⟨fun h => (by rw [h] at hr; cases hr), fun j hj => ?_⟩
    have hjn : j < n := by
      rcases Nat.lt_or_ge j n with h | h
      · exact h
      · exact absurd hj (tail_waits hs hc hn inv _ i rfl hin hun j h)
    refine ⟨hjn, ?_⟩
    by_cases hji : j = i
    · subst hji; exact hy.qOp hi H
    · have := hdone _ _ H j (ready_mono hj hji)
      omega
  | succ f ih =>
    intro listed a inv hfree hr hy H
    have hun := (mem_ready.1 hr).1
    refine ⟨fun h => (by rw [h] at hr; cases hr), fun j hj => ?_⟩
    have hjn : j < n := by
      rcases Nat.lt_or_ge j n with h | h
      · exact h
      · exact absurd hj (tail_waits hs hc hn inv _ i rfl hin hun j h)
    refine ⟨hjn, ?_⟩
    by_cases hji : j = i
    · subst hji; exact hy.qOp hi H
    · have h1 := (H.2 j (ready_mono hj hji)).2
      obtain ⟨hjun, oj, hoj, hall⟩ := mem_ready.1 hj
      have hnot : ∀ e ∈ oj.after, Region.binds md e = true → e.on ≠ i := fun e he hb heq => by
        have h1 := hall e he hb
        rw [heq, getD_both hun] at h1
        cases h1
      have h2 := qOp_put hoj (hfree j oj hoj hji hjun hnot) (fun cs b => hsel i oi cs b hi) (fun cs b => hsel j oj cs b hoj) hy h1
      have hfree' : ∀ k ok, ops[k]? = some ok → k ≠ i → (listed.setIfInBounds j true).getD k true = false →
          (∀ e ∈ ok.after, Region.binds md e = true → e.on ≠ i) → oi.apart ops ok = true := fun k ok hk hki hun hno => by
        refine hfree k ok hk hki ?_ hno
        by_cases hjk : j = k
        · subst hjk; exact hjun
        · rw [getD_set_ne true hjk] at hun; exact hun
      refine qOp_mono (fun a' h3 => ih (listed.setIfInBounds j true) a' (inv.set hj hjn) hfree' (ready_mono hr (Ne.symm hji)) h3.1 ?_) h2
      rw [Array.setIfInBounds_comm _ _ hji]
      exact h3.2
theorem wpAnyQL_lex {n g : Nat} {Lq : Act → Prop} (hsel : Region.noSelect ops = true) (hs : Region.sinkB md ops n = true) (hc : Region.chainB md ops n = true) (hn : n < ops.size) :
    ∀ (l : List Oper) (k : Nat) (listed : Array Bool) (a : Act), (∀ j, j < l.length → l[j]? = ops[k + j]?) → k + l.length = n → HeadInv md ops n listed →
    Region.lexHead md ops g l.length k listed = true → wpQuiet P ops C Lq l a →
    wpAnyQL P md ops C n (fun listed' a' => Region.seqB md ops g n listed' = true ∧ Lq a') l.length listed a
  | [], k, listed, a, _, hk, _, hB, h => by
    have : k = n := by simpa using hk
    subst this
    exact ⟨by simpa [Region.lexHead] using hB, h⟩
  | o :: l, k, listed, a, hl, hk, inv, hB, h => by
    have h0 : ops[k]? = some o := by simpa using (hl 0 (by simp)).symm
    simp only [List.length_cons, Region.lexHead, Bool.and_eq_true] at hB
    obtain ⟨⟨hr, hf⟩, hB'⟩ := hB
    have hkn : k < n := by simp only [List.length_cons] at hk; omega
    have hr' : k ∈ Region.ready md ops listed := by simpa using hr
    have hst : qOp P ops C k (wpQuiet P ops C Lq l) a := by unfold qOp; simp only [h0]; exact h
    obtain ⟨v, hy, hK⟩ := yieldsIn_of_qOp h0 hst
    exact wpAnyQL_first h0 (Region.noSelect_spec hsel) hs hc hn hkn (fun listed' a' hL => seqB_ready hL.1) l.length listed a inv (Region.free_spec h0 hf) hr' hy
      (wpAnyQL_lex hsel hs hc hn l (k + 1) _ _ (fun j hj => by have := hl (j + 1) (by simp; omega); simpa [Nat.add_assoc, Nat.add_comm 1 j] using this) (by simp only [List.length_cons] at hk; omega) (inv.set hr' hkn) hB' hK)
theorem wp_region_quiet_tail {id : Nat} {Q : Exit → Act → World → Prop} {a : Act} {w : World} {l : List Oper} (n : Nat) (hm : P.follows .mixedOrders = true) (hB : Region.lexTailB .any l.toArray n = true)
    (h : wpQuiet P l.toArray (fun w' => ∃ m, w' = w.drewN m) (fun a' => ∀ w', (∃ m, w' = w.drewN m) → wpList P l.toArray Q (l.drop n) a' w') (l.take n) a) : (Code.region id l.toArray true).wp P Q a w := by
  simp only [Region.lexTailB, Bool.and_eq_true, decide_eq_true_eq] at hB
  obtain ⟨⟨⟨⟨hsel, hn⟩, hs⟩, hc⟩, hlex⟩ := hB
  have hn' : n < l.length := by simpa using hn
  have htl : (l.take n).length = n := by simp; omega
  have hdl : (l.drop n).length = l.toArray.size - n := by simp
  have inv0 : HeadInv .any l.toArray n (Array.replicate l.toArray.size false) :=
    ⟨by simp, fun j oj _ hl => (by rw [getD_replicate_false] at hl; cases hl), fun t _ ht => getD_in (by simpa using ht) (getD_replicate_false _ _)⟩
  have H := wpAnyQL_lex (md := .any) (g := l.toArray.size - n) hsel hs hc hn (l.take n) 0 _ a (fun j hj => by
    have hj' : j < n := by rw [htl] at hj; exact hj
    simp [hj']) (by simpa using htl) inv0 (by rw [htl]; exact hlex) h
  refine wp_region_any hm ?_
  have := wpAny_of_qhead (Q' := Q) (g := l.toArray.size - n) (fun listed a' w' hw' hL => by
    have := wpAny_of_seq (md := .any) (Q' := Q) (l.drop n) n listed a' w' (fun j => by simp [List.getElem?_drop]) (by rw [hdl]; exact hL.1) (hL.2 w' hw')
    rwa [hdl] at this) _ _ _ { w with drawn := w.drawn + 1 } ⟨1, rfl⟩ H
  rw [htl, show n + (l.toArray.size - n) = l.toArray.size by omega] at this
  exact this
end
end Go.Proofs.YtcodpdpeklammaaGreatDoor
namespace Go.Proofs.YtcodpdpeklammaaGreatDoor
set_option linter.unusedVariables false
set_option linter.unusedSimpArgs false
open Go Go.RowKit
def putAll (a : Act) : List Nat → List Value → Act
  | t :: ts, u :: us => putAll (a.put (some t) u) ts us
  | _, _ => a
theorem wp_join {P : Program} {c rest : Code} {Q Q0 : Exit → Act → World → Prop} {K1 : Act → World → Prop} {a : Act} {w : World} (ts : List Nat) (J : World → Prop) (hK1 : ∀ a w, Code.wp P rest Q a w → K1 a w)
    (h2 : (∀ us w', us.length = ts.length → J w' → K1 (putAll a ts us) w') → Code.wp P c Q0 a w) (h1 : ∀ us w', us.length = ts.length → J w' → Code.wp P rest Q (putAll a ts us) w') : Code.wp P c Q0 a w :=
  h2 (fun us w' hl hj => hK1 _ _ (h1 us w' hl hj))
end Go.Proofs.YtcodpdpeklammaaGreatDoor
