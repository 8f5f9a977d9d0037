/- A transaction of which a copy is being made in place: its rows are one's own, its parts become so one by one. slices.Clone at inputs, outputs and items. No condition. -/
import Derived.Test.YtjfkkdkmpnpmpaaTxSameP
import Derived.Test.YtjfkkdkmpnpmpaaTxPut
import Derived.Test.YtjfkkdkmpnpmpaaTxFewS
namespace Go.Proofs.Ytjfkkdkmpnpmpaa
set_option linter.unusedVariables false
set_option linter.unusedSimpArgs false
open Go Go.RowKit

def Low (B : Nat) : Nat → Prop := fun g => g < B
/-- a row of inputs: ps: where their parts lie -/
structure CloG (W : World) (v : Value) (l : List InD) (cs : List Value) (ps : List (Value × Value)) : Prop where
  rd : Rd W 36 v l.length cs
  plen : ps.length = l.length
  cells : ∀ (k : Nat) (p : Value × Value) (d : InD), ps[k]? = some p → l[k]? = some d → (cs.drop (k * 36)).take 36 = inCells d p.1 p.2
theorem CloG.chg {X : Nat → Prop} {W W' : World} {v : Value} {l : List InD} {cs : List Value} {ps : List (Value × Value)} (h : CloG W v l cs ps) (hc : Chg X W W') (hx : ∀ g, v.ownBlock = some g → ¬ X g) : CloG W' v l cs ps := ⟨h.rd.chg hc hx, h.plen, h.cells⟩
theorem CloG.keeps {W W' : World} {v : Value} {l : List InD} {cs : List Value} {ps : List (Value × Value)} (h : CloG W v l cs ps) (hc : Keeps W W') : CloG W' v l cs ps := ⟨h.rd.keeps hc, h.plen, h.cells⟩
theorem CloG.at {W : World} {a : Option Addr} {n cap : Nat} {l : List InD} {cs : List Value} {ps : List (Value × Value)} (h : CloG W (.slice a n cap) l cs ps) {i : Nat} {d : InD} (hd : l[i]? = some d) :
    ∃ g off p, a = some ⟨g, off, none⟩ ∧ g < W.heap.size ∧ ps[i]? = some p ∧ Row W g (off + i * 36) (inCells d p.1 p.2) := by
  have hi : i < l.length := (List.getElem?_eq_some_iff.1 hd).1
  obtain ⟨h0, a', cap', e, h2, h3, h4, h5⟩ := h.rd
  cases e
  have hpl := h.plen
  cases a with
  | none => have := h4 rfl; omega
  | some ad =>
    obtain ⟨g, off, rfl, hg, hr⟩ := h5 _ rfl (by omega)
    have hp : ps[i]? = some (ps[i]'(by omega)) := List.getElem?_eq_getElem (by omega)
    refine ⟨g, off, _, rfl, hg, hp, ?_⟩
    rw [← h.cells i _ _ hp hd]
    exact (hr.drop (i * 36)).take 36
theorem CloG.put {W : World} {g off n cap : Nat} {l : List InD} {cs : List Value} {ps : List (Value × Value)} (h : CloG W (.slice (some ⟨g, off, none⟩) n cap) l cs ps) {i : Nat} {di : InD} (hd : l[i]? = some di) {p : Value × Value} (hp : ps[i]? = some p)
    (k : Nat) (hk : k < 36) (u : Value) (p' : Value × Value) (hc : (inCells di p.1 p.2).set k u = inCells di p'.1 p'.2) :
    CloG (W.setCell ⟨g, off + i * 36 + k, none⟩ u) (.slice (some ⟨g, off, none⟩) n cap) l (cs.set (i * 36 + k) u) (ps.set i p') := by
  have hil : i < l.length := (List.getElem?_eq_some_iff.1 hd).1
  obtain ⟨h0, a', cap', e, h2, h3, h4, h5⟩ := h.rd
  cases e
  obtain ⟨g', off', e2, hg, hrow⟩ := h5 _ rfl (by omega)
  cases e2
  have hrow2 := hrow.set (i * 36 + k) (by omega) u
  rw [← Nat.add_assoc] at hrow2
  refine ⟨⟨by simp [h0], _, cap, rfl, h2, h3, fun e => (by cases e), fun ad e _ => ⟨g, off, (Option.some.inj e).symm, by simpa using hg, hrow2⟩⟩, by simp [h.plen], ?_⟩
  intro m q dm hq hdm
  by_cases hm : m = i
  · subst hm
    rw [List.getElem?_set_self (by rw [h.plen]; exact hil)] at hq
    rw [hd] at hdm
    cases hq; cases hdm
    rw [seg_set _ _ _ _ _ _ hk, if_pos rfl, h.cells m p di hp hd]
    exact hc
  · rw [List.getElem?_set_ne (Ne.symm hm)] at hq
    rw [seg_set _ _ _ _ _ _ hk, if_neg hm]
    exact h.cells m q dm hq hdm
/-- the entries: those below i are one's own (S: bytes, T: lists of items), those from m on lie in old memory -/
structure CloE (S T : Nat → Prop) (B : Nat) (W : World) (l : List InD) (ps : List (Value × Value)) (i m : Nat) : Prop where
  done : ∀ (k : Nat) (p : Value × Value) (d : InD), k < i → ps[k]? = some p → l[k]? = some d → RIn S T W p.1 p.2 d
  todo : ∀ (k : Nat) (p : Value × Value) (d : InD), m ≤ k → ps[k]? = some p → l[k]? = some d → RIn (Low B) (Low B) W p.1 p.2 d
  apart : ∀ (a b : Nat) (p q : Value × Value), a < i → b < i → a ≠ b → ps[a]? = some p → ps[b]? = some q → ∀ g, p.2.ownBlock = some g → q.2.ownBlock ≠ some g
  fresh : ∀ g, S g ∨ T g → B + 2 ≤ g ∧ g < W.heap.size
  disj : ∀ g, S g → ¬ T g
theorem CloE.keeps {S T : Nat → Prop} {B : Nat} {W W' : World} {l : List InD} {ps : List (Value × Value)} {i m : Nat} (h : CloE S T B W l ps i m) (hk : Keeps W W') : CloE S T B W' l ps i m :=
  ⟨fun k p d a b c => (h.done k p d a b c).keeps hk, fun k p d a b c => (h.todo k p d a b c).keeps hk, h.apart, fun g hg => ⟨(h.fresh g hg).1, Nat.lt_of_lt_of_le (h.fresh g hg).2 hk.size⟩, h.disj⟩
theorem CloE.other {S T : Nat → Prop} {B : Nat} {W W' : World} {l : List InD} {ps : List (Value × Value)} {i m g : Nat} (h : CloE S T B W l ps i m) (hc : Chg (· = g) W W') (hS : ∀ b, S b → b ≠ g) (hB : B ≤ g) (hw : ∀ (k : Nat) (p : Value × Value), k < i → ps[k]? = some p → p.2.ownBlock ≠ some g) : CloE S T B W' l ps i m :=
  ⟨fun k p d a b c => (h.done k p d a b c).other hc hS (hw k p a b), fun k p d a b c => by
      have h1 := h.todo k p d a b c
      refine h1.other hc (fun b (hb : b < B) => by omega) (fun e => ?_)
      have : g < B := h1.wit.foot g e
      omega, h.apart, fun x hx => ⟨(h.fresh x hx).1, Nat.lt_of_lt_of_le (h.fresh x hx).2 hc.size⟩, h.disj⟩
theorem CloE.mono {S T S' T' : Nat → Prop} {B : Nat} {W : World} {l : List InD} {ps : List (Value × Value)} {i m : Nat} (h : CloE S T B W l ps i m) (hs : ∀ g, S g → S' g) (ht : ∀ g, T g → T' g) (hf : ∀ g, S' g ∨ T' g → B + 2 ≤ g ∧ g < W.heap.size) (hd : ∀ g, S' g → ¬ T' g) : CloE S' T' B W l ps i m :=
  ⟨fun k p d a b c => (h.done k p d a b c).mono hs ht, h.todo, h.apart, hf, hd⟩
theorem CloE.hole {S T : Nat → Prop} {B : Nat} {W : World} {l : List InD} {ps : List (Value × Value)} {i m : Nat} (h : CloE S T B W l ps i m) (hm : m ≤ i + 1) (p' : Value × Value) : CloE S T B W l (ps.set i p') i (i + 1) :=
  ⟨fun k p d a b c => h.done k p d a (by rwa [List.getElem?_set_ne (by omega)] at b) c, fun k p d a b c => h.todo k p d (by omega) (by rwa [List.getElem?_set_ne (by omega)] at b) c,
    fun a b p q ha hb hab hp hq => h.apart a b p q ha hb hab (by rwa [List.getElem?_set_ne (by omega)] at hp) (by rwa [List.getElem?_set_ne (by omega)] at hq), h.fresh, h.disj⟩
theorem CloE.close {S T : Nat → Prop} {B : Nat} {W : World} {l : List InD} {ps : List (Value × Value)} {i : Nat} (h : CloE S T B W l ps i (i + 1)) {p : Value × Value} {d : InD} (hp : ps[i]? = some p) (hd : l[i]? = some d) (hr : RIn S T W p.1 p.2 d)
    (ha : ∀ (k : Nat) (q : Value × Value), k < i → ps[k]? = some q → ∀ g, p.2.ownBlock = some g → q.2.ownBlock ≠ some g) : CloE S T B W l ps (i + 1) (i + 1) := by
  refine ⟨fun k q dk hk hq hdk => ?_, h.todo, fun a b q r ha' hb' hab hq hr' g e e2 => ?_, h.fresh, h.disj⟩
  · by_cases e : k = i
    · subst e
      rw [hp] at hq; rw [hd] at hdk
      cases hq; cases hdk
      exact hr
    · exact h.done k q dk (by omega) hq hdk
  · by_cases h1 : a = i
    · subst h1
      rw [hp] at hq; cases hq
      exact ha b r (by omega) hr' g e e2
    · by_cases h2 : b = i
      · subst h2
        rw [hp] at hr'; cases hr'
        exact ha a q (by omega) hq g e2 e
      · exact h.apart a b q r (by omega) (by omega) hab hq hr' g e e2
/-- an input whose script and list of items are one's own, the list's items below j too -/
structure Half (S T : Nat → Prop) (B : Nat) (W : World) (j : Nat) (sv wv : Value) (d : InD) (vs : List Value) : Prop where
  ok : d.Ok
  script : RB S W sv d.script
  wit : RL (fun g => S g ∨ g < B) T W wv d.wit vs
  part : ∀ (m : Nat) (u : Value) (l : List Int), m < j → vs[m]? = some u → d.wit[m]? = some l → RB S W u l
theorem Half.keeps {S T : Nat → Prop} {B : Nat} {W W' : World} {j : Nat} {sv wv : Value} {d : InD} {vs : List Value} (h : Half S T B W j sv wv d vs) (hk : Keeps W W') : Half S T B W' j sv wv d vs :=
  ⟨h.ok, h.script.keeps hk, h.wit.keeps hk, fun m u l a b c => (h.part m u l a b c).keeps hk⟩
theorem Half.mono {S T S' T' : Nat → Prop} {B : Nat} {W : World} {j : Nat} {sv wv : Value} {d : InD} {vs : List Value} (h : Half S T B W j sv wv d vs) (hs : ∀ g, S g → S' g) (ht : ∀ g, T g → T' g) : Half S' T' B W j sv wv d vs :=
  ⟨h.ok, h.script.mono hs, h.wit.mono (fun g hg => hg.elim (fun a => .inl (hs g a)) .inr) ht, fun m u l a b c => (h.part m u l a b c).mono hs⟩
theorem Half.put {S T : Nat → Prop} {B : Nat} {W : World} {sv : Value} {d : InD} {gw ow n c j : Nat} {vs : List Value} (h : Half S T B W j sv (.slice (some ⟨gw, ow, none⟩) n c) d vs) (hj : j < d.wit.length) (u : Value) (hu : RB S W u (d.wit.getD j [])) (hS : ∀ b, S b → b ≠ gw) (hB : B ≤ gw) :
    Half S T B (W.setCell ⟨gw, ow + j, none⟩ u) (j + 1) sv (.slice (some ⟨gw, ow, none⟩) n c) d (vs.set j u) := by
  have hx := Chg.cell (W := W) gw (ow + j) u
  have hlen := h.wit.len
  have hu2 := hu.chg hx hS
  obtain ⟨h0, a', cap', e, h2, h3, h4, h5⟩ := h.wit.rd
  cases e
  obtain ⟨g', off', e2, hg, hr⟩ := h5 _ rfl (by omega)
  cases e2
  have hr2 := hr.set j (by omega) u
  have hgd : d.wit[j]? = some (d.wit.getD j []) := by simp [List.getD, hj]
  refine ⟨h.ok, h.script.chg hx hS, ⟨⟨by simp [hlen], _, c, rfl, h2, h3, fun e => (by cases e), fun ad e _ => ⟨gw, ow, (Option.some.inj e).symm, by simpa using hg, hr2⟩⟩, ?_, h.wit.small, h.wit.foot⟩, ?_⟩
  · intro i x lx hxx hlx
    by_cases hi : j = i
    · subst hi
      rw [List.getElem?_set_self (by omega)] at hxx
      rw [hgd] at hlx
      cases hxx; cases hlx
      exact hu2.mono (fun _ => .inl)
    · rw [List.getElem?_set_ne hi] at hxx
      exact (h.wit.each i x lx hxx hlx).chg hx (fun b hb => hb.elim (hS b) (fun hb e => by omega))
  · intro i x lx hij hxx hlx
    by_cases hi : j = i
    · subst hi
      rw [List.getElem?_set_self (by omega)] at hxx
      rw [hgd] at hlx
      cases hxx; cases hlx
      exact hu2
    · rw [List.getElem?_set_ne hi] at hxx
      exact (h.part i x lx (by omega) hxx hlx).chg hx hS
theorem Half.full {S T : Nat → Prop} {B : Nat} {W : World} {sv wv : Value} {d : InD} {vs : List Value} (h : Half S T B W d.wit.length sv wv d vs) : RIn S T W sv wv d :=
  ⟨h.ok, h.script, vs, ⟨h.wit.rd, fun i u l hu hl => h.part i u l (List.getElem?_eq_some_iff.1 hl).1 hu hl, h.wit.small, h.wit.foot⟩⟩

/-- outputs, of which those below i are one's own -/
structure CloO (S : Nat → Prop) (B : Nat) (W : World) (v : Value) (l : List OutD) (cs ps : List Value) (i : Nat) : Prop where
  rd : Rd W 2 v l.length cs
  plen : ps.length = l.length
  cells : ∀ (k : Nat) (p : Value) (d : OutD), ps[k]? = some p → l[k]? = some d → I64 d.value ∧ (cs.drop (k * 2)).take 2 = outCells d p
  done : ∀ (k : Nat) (p : Value) (d : OutD), k < i → ps[k]? = some p → l[k]? = some d → RB S W p d.script
  todo : ∀ (k : Nat) (p : Value) (d : OutD), i ≤ k → ps[k]? = some p → l[k]? = some d → RB (Low B) W p d.script
  fresh : ∀ g, S g → B + 2 ≤ g ∧ g < W.heap.size
theorem CloO.keeps {S : Nat → Prop} {B : Nat} {W W' : World} {v : Value} {l : List OutD} {cs ps : List Value} {i : Nat} (h : CloO S B W v l cs ps i) (hk : Keeps W W') : CloO S B W' v l cs ps i :=
  ⟨h.rd.keeps hk, h.plen, h.cells, fun k p d a b c => (h.done k p d a b c).keeps hk, fun k p d a b c => (h.todo k p d a b c).keeps hk, fun g hg => ⟨(h.fresh g hg).1, Nat.lt_of_lt_of_le (h.fresh g hg).2 hk.size⟩⟩
theorem CloO.other {S : Nat → Prop} {B : Nat} {W W' : World} {v : Value} {l : List OutD} {cs ps : List Value} {i g : Nat} (h : CloO S B W v l cs ps i) (hc : Chg (· = g) W W') (hv : v.ownBlock ≠ some g) (hS : ∀ b, S b → b ≠ g) (hB : B ≤ g) : CloO S B W' v l cs ps i :=
  ⟨h.rd.chg hc (fun b e e2 => hv (by rw [e, e2])), h.plen, h.cells, fun k p d a b c => (h.done k p d a b c).chg hc hS, fun k p d a b c => (h.todo k p d a b c).chg hc (fun b (hb : b < B) e => by omega), fun x hx => ⟨(h.fresh x hx).1, Nat.lt_of_lt_of_le (h.fresh x hx).2 hc.size⟩⟩
theorem CloO.at {S : Nat → Prop} {B : Nat} {W : World} {a : Option Addr} {n cap : Nat} {l : List OutD} {cs ps : List Value} {i : Nat} (h : CloO S B W (.slice a n cap) l cs ps i) {d : OutD} (hd : l[i]? = some d) :
    ∃ g off p, a = some ⟨g, off, none⟩ ∧ g < W.heap.size ∧ ps[i]? = some p ∧ Row W g (off + i * 2) (outCells d p) ∧ RB (Low B) W p d.script := by
  have hi : i < l.length := (List.getElem?_eq_some_iff.1 hd).1
  obtain ⟨h0, a', cap', e, h2, h3, h4, h5⟩ := h.rd
  cases e
  have hpl := h.plen
  cases a with
  | none => have := h4 rfl; omega
  | some ad =>
    obtain ⟨g, off, rfl, hg, hr⟩ := h5 _ rfl (by omega)
    have hp : ps[i]? = some (ps[i]'(by omega)) := List.getElem?_eq_getElem (by omega)
    refine ⟨g, off, _, rfl, hg, hp, ?_, h.todo i _ d (Nat.le_refl _) hp hd⟩
    rw [← (h.cells i _ _ hp hd).2]
    exact (hr.drop (i * 2)).take 2
theorem CloO.put {S S' : Nat → Prop} {B : Nat} {W : World} {g off n cap : Nat} {l : List OutD} {cs ps : List Value} {i : Nat} (h : CloO S B W (.slice (some ⟨g, off, none⟩) n cap) l cs ps i) {di : OutD} (hd : l[i]? = some di)
    (u : Value) (hu : RB S' W u di.script) (hf : ∀ b, S' b → B + 2 ≤ b ∧ b < W.heap.size) (hS : ∀ b, S b → b ≠ g) (hS' : ∀ b, S' b → b ≠ g) (hB : B ≤ g) :
    CloO (fun b => S b ∨ S' b) B (W.setCell ⟨g, off + i * 2 + 1, none⟩ u) (.slice (some ⟨g, off, none⟩) n cap) l (cs.set (i * 2 + 1) u) (ps.set i u) (i + 1) := by
  have hx := Chg.cell (W := W) g (off + i * 2 + 1) u
  have hil : i < l.length := (List.getElem?_eq_some_iff.1 hd).1
  obtain ⟨h0, a', cap', e, h2, h3, h4, h5⟩ := h.rd
  cases e
  obtain ⟨g', off', e2, hg, hrow⟩ := h5 _ rfl (by omega)
  cases e2
  have hpl := h.plen
  have hrow2 := hrow.set (i * 2 + 1) (by omega) u
  rw [← Nat.add_assoc] at hrow2
  refine ⟨⟨by simp [h0], _, cap, rfl, h2, h3, fun e => (by cases e), fun ad e _ => ⟨g, off, (Option.some.inj e).symm, by simpa using hg, hrow2⟩⟩, by simp [hpl], ?_, ?_, ?_, ?_⟩
  · intro m q dm hq hdm
    by_cases hm : m = i
    · subst hm
      have hp : ps[m]? = some (ps[m]'(by omega)) := List.getElem?_eq_getElem (by omega)
      rw [List.getElem?_set_self (by omega)] at hq
      rw [hd] at hdm
      cases hq; cases hdm
      obtain ⟨c1, c2⟩ := h.cells m _ di hp hd
      refine ⟨c1, ?_⟩
      rw [seg_set _ _ _ _ _ _ (by omega), if_pos rfl, c2]
      rfl
    · rw [List.getElem?_set_ne (Ne.symm hm)] at hq
      rw [seg_set _ _ _ _ _ _ (by omega), if_neg hm]
      exact h.cells m q dm hq hdm
  · intro m q dm hmi hq hdm
    by_cases hm : m = i
    · subst hm
      rw [List.getElem?_set_self (by omega)] at hq
      rw [hd] at hdm
      cases hq; cases hdm
      exact (hu.chg hx hS').mono (fun _ => .inr)
    · rw [List.getElem?_set_ne (Ne.symm hm)] at hq
      exact ((h.done m q dm (by omega) hq hdm).chg hx hS).mono (fun _ => .inl)
  · intro m q dm hmi hq hdm
    rw [List.getElem?_set_ne (by omega)] at hq
    exact (h.todo m q dm (by omega) hq hdm).chg hx (fun b (hb : b < B) e => by omega)
  · intro b hb
    have hw := hx.size
    rcases hb with hb | hb
    · exact ⟨(h.fresh b hb).1, Nat.lt_of_lt_of_le (h.fresh b hb).2 hw⟩
    · exact ⟨(hf b hb).1, Nat.lt_of_lt_of_le (hf b hb).2 hw⟩
theorem CloO.full {S : Nat → Prop} {B : Nat} {W : World} {v : Value} {l : List OutD} {cs ps : List Value} (h : CloO S B W v l cs ps l.length) (hs : l.length * 32 ≤ 140737488355328) : ROutsX S (fun g => v.ownBlock = some g) W v l :=
  ⟨cs, ps, h.rd, h.plen, fun i p d hp hd => ⟨h.done i p d (List.getElem?_eq_some_iff.1 hd).1 hp hd, (h.cells i p d hp hd).1, (h.cells i p d hp hd).2⟩, hs, fun g e => e⟩
end Go.Proofs.Ytjfkkdkmpnpmpaa
