/- The curve's law over numbers modulo n, in plain Lean: points, sums, slopes. No condition. -/
import Derived.Test.YtajipagpdphejaaGC3
set_option linter.unusedSectionVars false
set_option linter.unusedVariables false
namespace Go.Proofs.Ytajipagpdphejaa.Cv
set_option linter.unusedVariables false
set_option linter.unusedSimpArgs false
inductive Pt (F : Type) where
  | inf
  | aff (x y : F)
section
variable {n : Nat} [NeZero n]
/-- an inverse, by Fermat -/
def finv (a : Fin n) : Fin n := a ^ (n - 2)
def On (x y : Fin n) : Prop := y^2 = x^3 + 7
def Pt.on : Pt (Fin n) → Prop
  | .inf => True
  | .aff x y => On x y
def dblX (x y : Fin n) : Fin n := (3*x^2 * finv (2*y))^2 - 2*x
def dblY (x y : Fin n) : Fin n := (3*x^2 * finv (2*y))*(x - dblX x y) - y
def chX (x1 y1 x2 y2 : Fin n) : Fin n := ((y2-y1)*finv (x2-x1))^2 - x1 - x2
def chY (x1 y1 x2 y2 : Fin n) : Fin n := ((y2-y1)*finv (x2-x1))*(x1 - chX x1 y1 x2 y2) - y1
def addP : Pt (Fin n) → Pt (Fin n) → Pt (Fin n)
  | .inf, q => q
  | .aff x y, .inf => .aff x y
  | .aff x1 y1, .aff x2 y2 => if x1 = x2 then (if y1 = y2 then .aff (dblX x1 y1) (dblY x1 y1) else .inf) else .aff (chX x1 y1 x2 y2) (chY x1 y1 x2 y2)
structure Good (n : Nat) [NeZero n] : Prop where
  one_ne : (1 : Fin n) ≠ 0
  inv : ∀ a : Fin n, a ≠ 0 → a * finv a = 1
  two : (2 : Fin n) ≠ 0
  three : (3 : Fin n) ≠ 0
  seven : (7 : Fin n) ≠ 0
  nocube : ∀ x : Fin n, x^3 + 7 ≠ 0
theorem eq_of (g : Good n) {a b : Fin n} (h : ∀ w, (a - b)*w = 1 → (1 : Fin n) = 0) : a = b := by
  by_cases e : a - b = 0
  · grobner
  · exact absurd (h _ (g.inv _ e)) g.one_ne
theorem ne_of (g : Good n) {a : Fin n} (h : a = 0 → (1 : Fin n) = 0) : a ≠ 0 := fun e => g.one_ne (h e)
theorem mul_ne (g : Good n) {a b : Fin n} (ha : a ≠ 0) (hb : b ≠ 0) : a * b ≠ 0 := by
  have h1 := g.inv a ha
  have h2 := g.inv b hb
  refine ne_of g fun e => ?_
  grobner
theorem sq_ne (g : Good n) {a : Fin n} (ha : a ≠ 0) : a^2 ≠ 0 := fun e => mul_ne g ha ha (by grobner)
theorem cube_ne (g : Good n) {a : Fin n} (ha : a ≠ 0) : a^3 ≠ 0 := fun e => mul_ne g (mul_ne g ha ha) ha (by grobner)
theorem zero_or (g : Good n) {a b : Fin n} (h : a * b = 0) : a = 0 ∨ b = 0 := by
  by_cases ha : a = 0
  · exact .inl ha
  · exact .inr (Classical.byContradiction fun hb => mul_ne g ha hb h)
theorem sub_ne {a b : Fin n} (h : a ≠ b) : b - a ≠ 0 := fun e => h (by grobner)
theorem y_ne {x y : Fin n} (g : Good n) (h : On x y) : y ≠ 0 := by
  intro e
  apply g.nocube x
  unfold On at h
  grobner
theorem dbl_on {x y : Fin n} (g : Good n) (h : On x y) : On (dblX x y) (dblY x y) := by
  have hu := g.inv _ (mul_ne g g.two (y_ne g h))
  unfold On at *
  unfold dblY dblX
  generalize finv (2*y) = u at *
  refine eq_of g fun w hw => ?_
  grobner
theorem ch_on {x1 y1 x2 y2 : Fin n} (g : Good n) (h1 : On x1 y1) (h2 : On x2 y2) (hx : x1 ≠ x2) : On (chX x1 y1 x2 y2) (chY x1 y1 x2 y2) := by
  have hu := g.inv _ (sub_ne hx)
  unfold On at *
  unfold chY chX
  generalize finv (x2-x1) = u at *
  refine eq_of g fun w hw => ?_
  grobner
theorem add_on {P Q : Pt (Fin n)} (g : Good n) (hP : P.on) (hQ : Q.on) : (addP P Q).on := by
  cases P with
  | inf => exact hQ
  | aff x1 y1 => cases Q with
    | inf => exact hP
    | aff x2 y2 =>
      simp only [addP]
      split
      · split
        · exact dbl_on g hP
        · trivial
      · rename_i h; exact ch_on g hP hQ h
/-- a triple that stands for a point: x/z^2, y/z^3 -/
def JR (X Y Z : Fin n) : Pt (Fin n) → Prop
  | .inf => Z = 0
  | .aff x y => Z ≠ 0 ∧ X = x * Z^2 ∧ Y = y * Z^3
/-- .. or x/z, y/z -/
def PR (X Y Z : Fin n) : Pt (Fin n) → Prop
  | .inf => X = 0 ∧ Y ≠ 0 ∧ Z = 0
  | .aff x y => Z ≠ 0 ∧ X = x * Z ∧ Y = y * Z
theorem jdbl {X Y Z x y : Fin n} (g : Good n) (h : On x y) (hr : JR X Y Z (.aff x y)) :
    let yy := Y*Y; let s0 := X*yy; let s := (s0+s0)+(s0+s0); let xx := X*X; let m := (xx+xx)+xx; let x3 := m*m - (s+s); let e0 := yy*yy; let e := (e0+e0)+(e0+e0); let z := Y*Z
    JR x3 (m*(s - x3) - (e+e)) (z+z) (.aff (dblX x y) (dblY x y)) := by
  obtain ⟨hz, rfl, rfl⟩ := hr
  have hy := y_ne g h
  have hzz := mul_ne g (mul_ne g g.two hy) (mul_ne g (sq_ne g hz) (sq_ne g hz))
  have hu := g.inv _ (mul_ne g g.two hy)
  intro yy s0 s xx m x3 e0 e z
  unfold dblY dblX
  generalize finv (2*y) = u at *
  refine ⟨fun e => hzz (by grobner), eq_of g fun w hw => ?_, eq_of g fun w hw => ?_⟩
  · grobner
  · grobner
theorem jadd {X1 Y1 Z1 X2 Y2 Z2 x1 y1 x2 y2 : Fin n} (g : Good n) (hr1 : JR X1 Y1 Z1 (.aff x1 y1)) (hr2 : JR X2 Y2 Z2 (.aff x2 y2)) (hx : x1 ≠ x2) :
    let aa := Z1*Z1; let bb := Z2*Z2; let u := X1*bb; let v := X2*aa; let s := Y1*(Z2*bb); let t := Y2*(Z1*aa); let h := v-u; let r := t-s; let hh := h*h; let hhh := h*hh; let q := u*hh; let x3 := (r*r - hhh) - (q+q)
    JR x3 (r*(q - x3) - s*hhh) (h*(Z1*Z2)) (.aff (chX x1 y1 x2 y2) (chY x1 y1 x2 y2)) := by
  obtain ⟨hz1, rfl, rfl⟩ := hr1
  obtain ⟨hz2, rfl, rfl⟩ := hr2
  have hzz := mul_ne g (sub_ne hx) (mul_ne g (cube_ne g hz1) (cube_ne g hz2))
  have hu := g.inv _ (sub_ne hx)
  intro aa bb u v s t h r hh hhh q x3
  unfold chY chX
  generalize finv (x2-x1) = i at *
  refine ⟨fun e => hzz (by grobner), eq_of g fun w hw => ?_, eq_of g fun w hw => ?_⟩
  · grobner
  · grobner
def pX (X1 Y1 Z1 X2 Y2 Z2 : Fin n) : Fin n := ((X1+Y1)*(X2+Y2) - (X1*X2 + Y1*Y2))*(Y1*Y2 - 21*(Z1*Z2)) - ((Y1+Z1)*(Y2+Z2) - (Y1*Y2+Z1*Z2))*(21*((X1+Z1)*(X2+Z2) - (X1*X2+Z1*Z2)))
def pY (X1 Y1 Z1 X2 Y2 Z2 : Fin n) : Fin n := (Y1*Y2 - 21*(Z1*Z2))*(Y1*Y2 + 21*(Z1*Z2)) + (21*((X1+Z1)*(X2+Z2) - (X1*X2+Z1*Z2)))*(X1*X2+X1*X2+X1*X2)
def pZ (X1 Y1 Z1 X2 Y2 Z2 : Fin n) : Fin n := (Y1*Y2 + 21*(Z1*Z2))*((Y1+Z1)*(Y2+Z2) - (Y1*Y2+Z1*Z2)) + (X1*X2+X1*X2+X1*X2)*((X1+Y1)*(X2+Y2) - (X1*X2 + Y1*Y2))
theorem chord_ok {x1 y1 x2 y2 : Fin n} (g : Good n) (h1 : On x1 y1) (h2 : On x2 y2) (hx : x1 ≠ x2) :
    pZ x1 y1 1 x2 y2 1 ≠ 0 ∧ pX x1 y1 1 x2 y2 1 = chX x1 y1 x2 y2 * pZ x1 y1 1 x2 y2 1 ∧ pY x1 y1 1 x2 y2 1 = chY x1 y1 x2 y2 * pZ x1 y1 1 x2 y2 1 := by
  have hu := g.inv _ (sub_ne hx)
  have h2' : On x2 (-y2) := by unfold On at *; grobner
  have hc := y_ne g (ch_on g h1 h2' hx)
  have hX : pX x1 y1 1 x2 y2 1 = chX x1 y1 x2 y2 * pZ x1 y1 1 x2 y2 1 := by
    unfold On at *
    unfold chX pX pZ
    generalize finv (x2-x1) = u at *
    refine eq_of g fun w hw => ?_
    grobner
  have hY : pY x1 y1 1 x2 y2 1 = chY x1 y1 x2 y2 * pZ x1 y1 1 x2 y2 1 := by
    unfold On at *
    unfold chY chX pY pZ
    generalize finv (x2-x1) = u at *
    refine eq_of g fun w hw => ?_
    grobner
  refine ⟨fun hz => ?_, hX, hY⟩
  rw [hz] at hX hY
  apply hc
  unfold On at *
  unfold chY chX
  unfold pX at hX
  unfold pY at hY
  unfold pZ at hz
  generalize finv (x2-x1) = u at *
  have hX : _ = (0 : Fin n) := hX.trans (by grobner)
  have hY : _ = (0 : Fin n) := hY.trans (by grobner)
  refine eq_of g fun w hw => ?_
  grobner

/-- .. and one triple more: no two sums are their own reflection -/
theorem bs {x1 y1 x2 y2 x3 y3 l m : Fin n} (g : Good n)
   (hl : l * (x2-x1) = y2-y1) (hm : m * (x3-x2) = y3-y2)
   (ha : x3 = l^2-x1-x2) (hb : y3 = l*(x1-x3)-y1) (hc : x1 = m^2-x2-x3) (hd : y1 = m*(x2-x1)-y2) (hy1 : y1 ≠ 0) (hy2 : y2 ≠ 0) : False := by
  have e1 : 2*y2 + (l+m)*(x1-x2) = 0 := by grobner
  have e2 : 2*y2 + (l+m)*(x3-x2) = 0 := by grobner
  have h2 := mul_ne g g.two hy2
  have hlm : l + m ≠ 0 := fun e => h2 (by grobner)
  have h13 : x1 - x3 = 0 := by
    rcases zero_or g (show (l+m)*(x1-x3) = 0 by grobner) with h | h
    · exact absurd h hlm
    · exact h
  have hlm2 : l - m = 0 := by
    rcases zero_or g (show (l+m)*(l-m) = 0 by grobner) with h | h
    · exact absurd h hlm
    · exact h
  exact mul_ne g g.two hy1 (by grobner)
/-- the slope of a line through two points of the curve, or of the tangent -/
structure Slope (x1 y1 x2 y2 l : Fin n) : Prop where
  dif : l * (x2-x1) = y2-y1
  sum : l*(y1+y2) = x1^2+x1*x2+x2^2
def negP : Pt (Fin n) → Pt (Fin n)
  | .inf => .inf
  | .aff x y => .aff x (-y)
theorem neg_on {P : Pt (Fin n)} (h : P.on) : (negP P).on := by
  cases P with
  | inf => trivial
  | aff x y => show On x (-y); unfold Pt.on On at *; grobner
theorem nn (y : Fin n) : - -y = y := by grobner
theorem neg_neg (P : Pt (Fin n)) : negP (negP P) = P := by
  cases P with
  | inf => rfl
  | aff x y => simp only [negP, nn]
theorem same_x {x y1 y2 : Fin n} (g : Good n) (h1 : On x y1) (h2 : On x y2) : y1 = y2 ∨ y1 = -y2 := by
  unfold On at *
  rcases zero_or g (show (y1 - y2)*(y1+y2) = 0 by grobner) with h | h
  · exact .inl (by grobner)
  · exact .inr (by grobner)
theorem slope_ex {x1 y1 x2 y2 : Fin n} (g : Good n) (h1 : On x1 y1) (h2 : On x2 y2) (hn : ¬ (x1 = x2 ∧ y1 = -y2)) : ∃ l, Slope x1 y1 x2 y2 l := by
  by_cases hx : x1 = x2
  · subst hx
    rcases same_x g h1 h2 with hy | hy
    · subst hy
      have hu := g.inv _ (mul_ne g g.two (y_ne g h1))
      refine ⟨3*x1^2*finv (2*y1), by grobner, ?_⟩
      generalize finv (2*y1) = u at *
      grobner
    · exact absurd ⟨rfl, hy⟩ hn
  · have hu := g.inv _ (sub_ne hx)
    refine ⟨(y2-y1)*finv (x2-x1), ?_, ?_⟩
    · generalize finv (x2-x1) = u at *
      grobner
    · unfold On at *
      generalize finv (x2-x1) = u at *
      refine eq_of g fun w hw => ?_
      grobner
theorem add_slope {x1 y1 x2 y2 l : Fin n} (g : Good n) (h1 : On x1 y1) (h2 : On x2 y2) (hn : ¬ (x1 = x2 ∧ y1 = -y2)) (s : Slope x1 y1 x2 y2 l) :
    addP (.aff x1 y1) (.aff x2 y2) = .aff (l^2-x1-x2) (l*(x1-(l^2-x1-x2))-y1) := by
  obtain ⟨s1, s2⟩ := s
  by_cases hx : x1 = x2
  · subst hx
    rcases same_x g h1 h2 with hy | hy
    · subst hy
      have hu := g.inv _ (mul_ne g g.two (y_ne g h1))
      have e : 3*x1^2*finv (2*y1) = l := by
        generalize finv (2*y1) = u at *
        refine eq_of g fun w hw => ?_
        grobner
      simp only [addP, if_true]
      unfold dblY dblX
      rw [e]
      have e1 : l^2 - 2*x1 = l^2-x1-x1 := by grobner
      rw [e1]
    · exact absurd ⟨rfl, hy⟩ hn
  · simp only [addP, if_neg hx]
    have hu := g.inv _ (sub_ne hx)
    have e : (y2-y1)*finv (x2-x1) = l := by
      generalize finv (x2-x1) = u at *
      refine eq_of g fun w hw => ?_
      grobner
    unfold chY chX
    rw [e]
theorem nondeg {x1 y1 x2 y2 : Fin n} (hn : ¬ (x1 = x2 ∧ y1 = -y2)) : x2 - x1 ≠ 0 ∨ y1 + y2 ≠ 0 := by
  by_cases hx : x1 = x2
  · exact .inr (fun e => hn ⟨hx, by grobner⟩)
  · exact .inl (sub_ne hx)
theorem add_inf (P : Pt (Fin n)) : addP P .inf = P := by cases P <;> rfl
theorem inf_add (P : Pt (Fin n)) : addP .inf P = P := by cases P <;> rfl
theorem add_self_neg (P : Pt (Fin n)) (g : Good n) (h : P.on) : addP P (negP P) = .inf := by
  cases P with
  | inf => rfl
  | aff x y =>
    have hy := mul_ne g g.two (y_ne g (show On x y from h))
    simp only [addP, negP, if_true]
    rw [if_neg (fun e => hy (by grobner))]
theorem add_eq_neg {x1 y1 x2 y2 : Fin n} (g : Good n) (h1 : On x1 y1) (h : x1 = x2 ∧ y1 = -y2) : addP (.aff x1 y1) (.aff x2 y2) = .inf := by
  obtain ⟨rfl, rfl⟩ := h
  have := add_self_neg (.aff x1 (-y2)) g h1
  simp only [negP, nn] at this
  exact this
theorem add_comm {P Q : Pt (Fin n)} (g : Good n) (hP : P.on) (hQ : Q.on) : addP P Q = addP Q P := by
  cases P with
  | inf => rw [add_inf, inf_add]
  | aff x1 y1 => cases Q with
    | inf => rw [add_inf, inf_add]
    | aff x2 y2 =>
      by_cases hn : x1 = x2 ∧ y1 = -y2
      · rw [add_eq_neg g hP hn, add_eq_neg g hQ ⟨hn.1.symm, by rw [hn.2, nn]⟩]
      · obtain ⟨l, s⟩ := slope_ex g hP hQ hn
        have s1 := s.dif
        have s2 := s.sum
        rw [add_slope g hP hQ hn s, add_slope g hQ hP (fun h => hn ⟨h.1.symm, by rw [h.2, nn]⟩) (l := l) ⟨by grobner, by grobner⟩]
        have e1 : l^2-x1-x2 = l^2-x2-x1 := by grobner
        rw [e1]
        congr 1
        grobner
/-- what was added can be taken away -/
theorem add_cancel {P Q : Pt (Fin n)} (g : Good n) (hP : P.on) (hQ : Q.on) : addP (addP P Q) (negP Q) = P := by
  cases Q with
  | inf => rw [add_inf]; exact add_inf P
  | aff x2 y2 => cases P with
    | inf => rw [inf_add]; exact add_self_neg _ g hQ
    | aff x1 y1 =>
      by_cases hn : x1 = x2 ∧ y1 = -y2
      · rw [add_eq_neg g hP hn, inf_add]
        obtain ⟨rfl, rfl⟩ := hn
        rfl
      · obtain ⟨l, s⟩ := slope_ex g hP hQ hn
        have hS := add_on g hP hQ
        rw [add_slope g hP hQ hn s] at hS ⊢
        have hs1 := s.dif
        have hs2 := s.sum
        have hy2 := mul_ne g g.two (y_ne g (show On x2 y2 from hQ))
        have hQ' : On x2 (-y2) := neg_on hQ
        simp only [negP]
        generalize ha : l^2-x1-x2 = a at *
        generalize hb : l*(x1-a)-y1 = b at *
        have hne : ¬ (a = x2 ∧ b = - -y2) := by
          rintro ⟨e1, e2⟩
          rw [nn] at e2
          exact hy2 (by grobner)
        have hon : On a b := hS
        rw [add_slope g hS hQ' hne (l := -l) ⟨by grobner, by
          have h1 : On x1 y1 := hP
          have h2 : On x2 y2 := hQ
          unfold On at h1 h2 hon
          rcases nondeg hn with h | h
          · have i := g.inv _ h
            exact eq_of g fun w hw => by grobner
          · have i := g.inv _ h
            exact eq_of g fun w hw => by grobner⟩]
        have e1 : (-l)^2 - a - x2 = x1 := by grobner
        rw [e1]
        congr 1
        grobner
end
end Go.Proofs.Ytajipagpdphejaa.Cv
