/- The curve's sum is associative; the formulas of a triple are the sum. No condition. -/
import Derived.Test.YtlofddoojkeakaaDoorGB6
set_option linter.unusedSectionVars false
set_option linter.unusedVariables false
namespace Go.Proofs.YtlofddoojkeakaaDoor.Cv
set_option linter.unusedVariables false
set_option linter.unusedSimpArgs false
section
variable {n : Nat} [NeZero n]
theorem as0000 {x1 y1 x2 y2 x3 y3 l m p q a b c d : Fin n} (g : Good n) (h1 : y1^2 = x1^3+7) (h2 : y2^2 = x2^3+7) (h3 : y3^2 = x3^3+7)
   (hl : l * (x2-x1) = y2-y1) (hl' : l*(y1+y2) = x1^2+x1*x2+x2^2) (hm : m * (x3-x2) = y3-y2) (hm' : m*(y2+y3) = x2^2+x2*x3+x3^2)
   (ha : a = l^2-x1-x2) (hb : b = l*(x1-a)-y1) (hc : c = m^2-x2-x3) (hd : d = m*(x2-c)-y2)
   (hp : p * (x3 - a) = y3 - b) (hp' : p*(b+y3) = a^2+a*x3+x3^2) (hq : q * (c - x1) = d - y1) (hq' : q*(d+y1) = c^2+c*x1+x1^2) (nl : x2 - x1 ≠ 0) (nm : x3 - x2 ≠ 0) (np : x3 - a ≠ 0) (nq : c - x1 ≠ 0) :
   p^2 - a - x3 = q^2 - x1 - c ∧ p*(a - (p^2 - a - x3)) - b = q*(x1 - (p^2 - a - x3)) - y1 := by
  have i1 := g.inv _ nl
  have i2 := g.inv _ nm
  have i3 := g.inv _ np
  have i4 := g.inv _ nq
  clear nl nm np nq
  subst ha hb hc hd
  refine ⟨eq_of g fun w hw => ?_, eq_of g fun w hw => ?_⟩
  · grobner
  · grobner
theorem as0001 {x1 y1 x2 y2 x3 y3 l m p q a b c d : Fin n} (g : Good n) (h1 : y1^2 = x1^3+7) (h2 : y2^2 = x2^3+7) (h3 : y3^2 = x3^3+7)
   (hl : l * (x2-x1) = y2-y1) (hl' : l*(y1+y2) = x1^2+x1*x2+x2^2) (hm : m * (x3-x2) = y3-y2) (hm' : m*(y2+y3) = x2^2+x2*x3+x3^2)
   (ha : a = l^2-x1-x2) (hb : b = l*(x1-a)-y1) (hc : c = m^2-x2-x3) (hd : d = m*(x2-c)-y2)
   (hp : p * (x3 - a) = y3 - b) (hp' : p*(b+y3) = a^2+a*x3+x3^2) (hq : q * (c - x1) = d - y1) (hq' : q*(d+y1) = c^2+c*x1+x1^2) (nl : x2 - x1 ≠ 0) (nm : x3 - x2 ≠ 0) (np : x3 - a ≠ 0) (nq : d + y1 ≠ 0) :
   p^2 - a - x3 = q^2 - x1 - c ∧ p*(a - (p^2 - a - x3)) - b = q*(x1 - (p^2 - a - x3)) - y1 := by
  have i1 := g.inv _ nl
  have i2 := g.inv _ nm
  have i3 := g.inv _ np
  have i4 := g.inv _ nq
  clear nl nm np nq
  subst ha hb hc hd
  refine ⟨eq_of g fun w hw => ?_, eq_of g fun w hw => ?_⟩
  · grobner
  · grobner
theorem as0010 {x1 y1 x2 y2 x3 y3 l m p q a b c d : Fin n} (g : Good n) (h1 : y1^2 = x1^3+7) (h2 : y2^2 = x2^3+7) (h3 : y3^2 = x3^3+7)
   (hl : l * (x2-x1) = y2-y1) (hl' : l*(y1+y2) = x1^2+x1*x2+x2^2) (hm : m * (x3-x2) = y3-y2) (hm' : m*(y2+y3) = x2^2+x2*x3+x3^2)
   (ha : a = l^2-x1-x2) (hb : b = l*(x1-a)-y1) (hc : c = m^2-x2-x3) (hd : d = m*(x2-c)-y2)
   (hp : p * (x3 - a) = y3 - b) (hp' : p*(b+y3) = a^2+a*x3+x3^2) (hq : q * (c - x1) = d - y1) (hq' : q*(d+y1) = c^2+c*x1+x1^2) (nl : x2 - x1 ≠ 0) (nm : x3 - x2 ≠ 0) (np : b + y3 ≠ 0) (nq : c - x1 ≠ 0) :
   p^2 - a - x3 = q^2 - x1 - c ∧ p*(a - (p^2 - a - x3)) - b = q*(x1 - (p^2 - a - x3)) - y1 := by
  have i1 := g.inv _ nl
  have i2 := g.inv _ nm
  have i3 := g.inv _ np
  have i4 := g.inv _ nq
  clear nl nm np nq
  subst ha hb hc hd
  refine ⟨eq_of g fun w hw => ?_, eq_of g fun w hw => ?_⟩
  · grobner
  · grobner
theorem as0100 {x1 y1 x2 y2 x3 y3 l m p q a b c d : Fin n} (g : Good n) (h1 : y1^2 = x1^3+7) (h2 : y2^2 = x2^3+7) (h3 : y3^2 = x3^3+7)
   (hl : l * (x2-x1) = y2-y1) (hl' : l*(y1+y2) = x1^2+x1*x2+x2^2) (hm : m * (x3-x2) = y3-y2) (hm' : m*(y2+y3) = x2^2+x2*x3+x3^2)
   (ha : a = l^2-x1-x2) (hb : b = l*(x1-a)-y1) (hc : c = m^2-x2-x3) (hd : d = m*(x2-c)-y2)
   (hp : p * (x3 - a) = y3 - b) (hp' : p*(b+y3) = a^2+a*x3+x3^2) (hq : q * (c - x1) = d - y1) (hq' : q*(d+y1) = c^2+c*x1+x1^2) (nl : x2 - x1 ≠ 0) (nm : y2 + y3 ≠ 0) (np : x3 - a ≠ 0) (nq : c - x1 ≠ 0) :
   p^2 - a - x3 = q^2 - x1 - c ∧ p*(a - (p^2 - a - x3)) - b = q*(x1 - (p^2 - a - x3)) - y1 := by
  have i1 := g.inv _ nl
  have i2 := g.inv _ nm
  have i3 := g.inv _ np
  have i4 := g.inv _ nq
  clear nl nm np nq
  subst ha hb hc hd
  refine ⟨eq_of g fun w hw => ?_, eq_of g fun w hw => ?_⟩
  · grobner
  · grobner
theorem as0101 {x1 y1 x2 y2 x3 y3 l m p q a b c d : Fin n} (g : Good n) (h1 : y1^2 = x1^3+7) (h2 : y2^2 = x2^3+7) (h3 : y3^2 = x3^3+7)
   (hl : l * (x2-x1) = y2-y1) (hl' : l*(y1+y2) = x1^2+x1*x2+x2^2) (hm : m * (x3-x2) = y3-y2) (hm' : m*(y2+y3) = x2^2+x2*x3+x3^2)
   (ha : a = l^2-x1-x2) (hb : b = l*(x1-a)-y1) (hc : c = m^2-x2-x3) (hd : d = m*(x2-c)-y2)
   (hp : p * (x3 - a) = y3 - b) (hp' : p*(b+y3) = a^2+a*x3+x3^2) (hq : q * (c - x1) = d - y1) (hq' : q*(d+y1) = c^2+c*x1+x1^2) (nl : x2 - x1 ≠ 0) (nm : y2 + y3 ≠ 0) (np : x3 - a ≠ 0) (nq : d + y1 ≠ 0) :
   p^2 - a - x3 = q^2 - x1 - c ∧ p*(a - (p^2 - a - x3)) - b = q*(x1 - (p^2 - a - x3)) - y1 := by
  have i1 := g.inv _ nl
  have i2 := g.inv _ nm
  have i3 := g.inv _ np
  have i4 := g.inv _ nq
  clear nl nm np nq
  subst ha hb hc hd
  refine ⟨eq_of g fun w hw => ?_, eq_of g fun w hw => ?_⟩
  · grobner
  · grobner
theorem as0110 {x1 y1 x2 y2 x3 y3 l m p q a b c d : Fin n} (g : Good n) (h1 : y1^2 = x1^3+7) (h2 : y2^2 = x2^3+7) (h3 : y3^2 = x3^3+7)
   (hl : l * (x2-x1) = y2-y1) (hl' : l*(y1+y2) = x1^2+x1*x2+x2^2) (hm : m * (x3-x2) = y3-y2) (hm' : m*(y2+y3) = x2^2+x2*x3+x3^2)
   (ha : a = l^2-x1-x2) (hb : b = l*(x1-a)-y1) (hc : c = m^2-x2-x3) (hd : d = m*(x2-c)-y2)
   (hp : p * (x3 - a) = y3 - b) (hp' : p*(b+y3) = a^2+a*x3+x3^2) (hq : q * (c - x1) = d - y1) (hq' : q*(d+y1) = c^2+c*x1+x1^2) (nl : x2 - x1 ≠ 0) (nm : y2 + y3 ≠ 0) (np : b + y3 ≠ 0) (nq : c - x1 ≠ 0) :
   p^2 - a - x3 = q^2 - x1 - c ∧ p*(a - (p^2 - a - x3)) - b = q*(x1 - (p^2 - a - x3)) - y1 := by
  have i1 := g.inv _ nl
  have i2 := g.inv _ nm
  have i3 := g.inv _ np
  have i4 := g.inv _ nq
  clear nl nm np nq
  subst ha hb hc hd
  refine ⟨eq_of g fun w hw => ?_, eq_of g fun w hw => ?_⟩
  · grobner
  · grobner
theorem as1000 {x1 y1 x2 y2 x3 y3 l m p q a b c d : Fin n} (g : Good n) (h1 : y1^2 = x1^3+7) (h2 : y2^2 = x2^3+7) (h3 : y3^2 = x3^3+7)
   (hl : l * (x2-x1) = y2-y1) (hl' : l*(y1+y2) = x1^2+x1*x2+x2^2) (hm : m * (x3-x2) = y3-y2) (hm' : m*(y2+y3) = x2^2+x2*x3+x3^2)
   (ha : a = l^2-x1-x2) (hb : b = l*(x1-a)-y1) (hc : c = m^2-x2-x3) (hd : d = m*(x2-c)-y2)
   (hp : p * (x3 - a) = y3 - b) (hp' : p*(b+y3) = a^2+a*x3+x3^2) (hq : q * (c - x1) = d - y1) (hq' : q*(d+y1) = c^2+c*x1+x1^2) (nl : y1 + y2 ≠ 0) (nm : x3 - x2 ≠ 0) (np : x3 - a ≠ 0) (nq : c - x1 ≠ 0) :
   p^2 - a - x3 = q^2 - x1 - c ∧ p*(a - (p^2 - a - x3)) - b = q*(x1 - (p^2 - a - x3)) - y1 := by
  have i1 := g.inv _ nl
  have i2 := g.inv _ nm
  have i3 := g.inv _ np
  have i4 := g.inv _ nq
  clear nl nm np nq
  subst ha hb hc hd
  refine ⟨eq_of g fun w hw => ?_, eq_of g fun w hw => ?_⟩
  · grobner
  · grobner
theorem as1001 {x1 y1 x2 y2 x3 y3 l m p q a b c d : Fin n} (g : Good n) (h1 : y1^2 = x1^3+7) (h2 : y2^2 = x2^3+7) (h3 : y3^2 = x3^3+7)
   (hl : l * (x2-x1) = y2-y1) (hl' : l*(y1+y2) = x1^2+x1*x2+x2^2) (hm : m * (x3-x2) = y3-y2) (hm' : m*(y2+y3) = x2^2+x2*x3+x3^2)
   (ha : a = l^2-x1-x2) (hb : b = l*(x1-a)-y1) (hc : c = m^2-x2-x3) (hd : d = m*(x2-c)-y2)
   (hp : p * (x3 - a) = y3 - b) (hp' : p*(b+y3) = a^2+a*x3+x3^2) (hq : q * (c - x1) = d - y1) (hq' : q*(d+y1) = c^2+c*x1+x1^2) (nl : y1 + y2 ≠ 0) (nm : x3 - x2 ≠ 0) (np : x3 - a ≠ 0) (nq : d + y1 ≠ 0) :
   p^2 - a - x3 = q^2 - x1 - c ∧ p*(a - (p^2 - a - x3)) - b = q*(x1 - (p^2 - a - x3)) - y1 := by
  have i1 := g.inv _ nl
  have i2 := g.inv _ nm
  have i3 := g.inv _ np
  have i4 := g.inv _ nq
  clear nl nm np nq
  subst ha hb hc hd
  refine ⟨eq_of g fun w hw => ?_, eq_of g fun w hw => ?_⟩
  · grobner
  · grobner
theorem as1010 {x1 y1 x2 y2 x3 y3 l m p q a b c d : Fin n} (g : Good n) (h1 : y1^2 = x1^3+7) (h2 : y2^2 = x2^3+7) (h3 : y3^2 = x3^3+7)
   (hl : l * (x2-x1) = y2-y1) (hl' : l*(y1+y2) = x1^2+x1*x2+x2^2) (hm : m * (x3-x2) = y3-y2) (hm' : m*(y2+y3) = x2^2+x2*x3+x3^2)
   (ha : a = l^2-x1-x2) (hb : b = l*(x1-a)-y1) (hc : c = m^2-x2-x3) (hd : d = m*(x2-c)-y2)
   (hp : p * (x3 - a) = y3 - b) (hp' : p*(b+y3) = a^2+a*x3+x3^2) (hq : q * (c - x1) = d - y1) (hq' : q*(d+y1) = c^2+c*x1+x1^2) (nl : y1 + y2 ≠ 0) (nm : x3 - x2 ≠ 0) (np : b + y3 ≠ 0) (nq : c - x1 ≠ 0) :
   p^2 - a - x3 = q^2 - x1 - c ∧ p*(a - (p^2 - a - x3)) - b = q*(x1 - (p^2 - a - x3)) - y1 := by
  have i1 := g.inv _ nl
  have i2 := g.inv _ nm
  have i3 := g.inv _ np
  have i4 := g.inv _ nq
  clear nl nm np nq
  subst ha hb hc hd
  refine ⟨eq_of g fun w hw => ?_, eq_of g fun w hw => ?_⟩
  · grobner
  · grobner
theorem as1100 {x1 y1 x2 y2 x3 y3 l m p q a b c d : Fin n} (g : Good n) (h1 : y1^2 = x1^3+7) (h2 : y2^2 = x2^3+7) (h3 : y3^2 = x3^3+7)
   (hl : l * (x2-x1) = y2-y1) (hl' : l*(y1+y2) = x1^2+x1*x2+x2^2) (hm : m * (x3-x2) = y3-y2) (hm' : m*(y2+y3) = x2^2+x2*x3+x3^2)
   (ha : a = l^2-x1-x2) (hb : b = l*(x1-a)-y1) (hc : c = m^2-x2-x3) (hd : d = m*(x2-c)-y2)
   (hp : p * (x3 - a) = y3 - b) (hp' : p*(b+y3) = a^2+a*x3+x3^2) (hq : q * (c - x1) = d - y1) (hq' : q*(d+y1) = c^2+c*x1+x1^2) (nl : y1 + y2 ≠ 0) (nm : y2 + y3 ≠ 0) (np : x3 - a ≠ 0) (nq : c - x1 ≠ 0) :
   p^2 - a - x3 = q^2 - x1 - c ∧ p*(a - (p^2 - a - x3)) - b = q*(x1 - (p^2 - a - x3)) - y1 := by
  have i1 := g.inv _ nl
  have i2 := g.inv _ nm
  have i3 := g.inv _ np
  have i4 := g.inv _ nq
  clear nl nm np nq
  subst ha hb hc hd
  refine ⟨eq_of g fun w hw => ?_, eq_of g fun w hw => ?_⟩
  · grobner
  · grobner
theorem as1101 {x1 y1 x2 y2 x3 y3 l m p q a b c d : Fin n} (g : Good n) (h1 : y1^2 = x1^3+7) (h2 : y2^2 = x2^3+7) (h3 : y3^2 = x3^3+7)
   (hl : l * (x2-x1) = y2-y1) (hl' : l*(y1+y2) = x1^2+x1*x2+x2^2) (hm : m * (x3-x2) = y3-y2) (hm' : m*(y2+y3) = x2^2+x2*x3+x3^2)
   (ha : a = l^2-x1-x2) (hb : b = l*(x1-a)-y1) (hc : c = m^2-x2-x3) (hd : d = m*(x2-c)-y2)
   (hp : p * (x3 - a) = y3 - b) (hp' : p*(b+y3) = a^2+a*x3+x3^2) (hq : q * (c - x1) = d - y1) (hq' : q*(d+y1) = c^2+c*x1+x1^2) (nl : y1 + y2 ≠ 0) (nm : y2 + y3 ≠ 0) (np : x3 - a ≠ 0) (nq : d + y1 ≠ 0) :
   p^2 - a - x3 = q^2 - x1 - c ∧ p*(a - (p^2 - a - x3)) - b = q*(x1 - (p^2 - a - x3)) - y1 := by
  have i1 := g.inv _ nl
  have i2 := g.inv _ nm
  have i3 := g.inv _ np
  have i4 := g.inv _ nq
  clear nl nm np nq
  subst ha hb hc hd
  refine ⟨eq_of g fun w hw => ?_, eq_of g fun w hw => ?_⟩
  · grobner
  · grobner
theorem as1110 {x1 y1 x2 y2 x3 y3 l m p q a b c d : Fin n} (g : Good n) (h1 : y1^2 = x1^3+7) (h2 : y2^2 = x2^3+7) (h3 : y3^2 = x3^3+7)
   (hl : l * (x2-x1) = y2-y1) (hl' : l*(y1+y2) = x1^2+x1*x2+x2^2) (hm : m * (x3-x2) = y3-y2) (hm' : m*(y2+y3) = x2^2+x2*x3+x3^2)
   (ha : a = l^2-x1-x2) (hb : b = l*(x1-a)-y1) (hc : c = m^2-x2-x3) (hd : d = m*(x2-c)-y2)
   (hp : p * (x3 - a) = y3 - b) (hp' : p*(b+y3) = a^2+a*x3+x3^2) (hq : q * (c - x1) = d - y1) (hq' : q*(d+y1) = c^2+c*x1+x1^2) (nl : y1 + y2 ≠ 0) (nm : y2 + y3 ≠ 0) (np : b + y3 ≠ 0) (nq : c - x1 ≠ 0) :
   p^2 - a - x3 = q^2 - x1 - c ∧ p*(a - (p^2 - a - x3)) - b = q*(x1 - (p^2 - a - x3)) - y1 := by
  have i1 := g.inv _ nl
  have i2 := g.inv _ nm
  have i3 := g.inv _ np
  have i4 := g.inv _ nq
  clear nl nm np nq
  subst ha hb hc hd
  refine ⟨eq_of g fun w hw => ?_, eq_of g fun w hw => ?_⟩
  · grobner
  · grobner
end
section
variable {n : Nat} [NeZero n]
theorem sub0 {u v : Fin n} (h : u - v = 0) : v = u := by grobner
theorem cm0 {u v : Fin n} (h : u + v = 0) : v + u = 0 := by grobner
theorem sw2 {q d y c x : Fin n} (h : q*(y+d) = x^2+x*c+c^2) : q*(d+y) = c^2+c*x+x^2 := by grobner
theorem neg_add {P Q : Pt (Fin n)} (g : Good n) (hP : P.on) (hQ : Q.on) : negP (addP P Q) = addP (negP P) (negP Q) := by
  cases P with
  | inf => rw [inf_add]; exact (inf_add _).symm
  | aff x1 y1 => cases Q with
    | inf => rw [add_inf]; exact (add_inf _).symm
    | aff x2 y2 =>
      have hP' : On x1 (-y1) := neg_on hP
      have hQ' : On x2 (-y2) := neg_on hQ
      by_cases hn : x1 = x2 ∧ y1 = -y2
      · rw [add_eq_neg g hP hn]
        exact (add_eq_neg g hP' ⟨hn.1, by rw [hn.2]⟩).symm
      · obtain ⟨l, s⟩ := slope_ex g hP hQ hn
        have hs1 := s.dif
        have hs2 := s.sum
        rw [add_slope g hP hQ hn s]
        simp only [negP]
        rw [add_slope g hP' hQ' (fun h => hn ⟨h.1, by have := h.2; grobner⟩) (l := -l) ⟨by grobner, by grobner⟩]
        have e1 : (-l)^2 - x1 - x2 = l^2-x1-x2 := by grobner
        rw [e1]
        congr 1
        grobner
theorem add_assoc {P Q R : Pt (Fin n)} (g : Good n) (hP : P.on) (hQ : Q.on) (hR : R.on) : addP (addP P Q) R = addP P (addP Q R) := by
  cases P with
  | inf => rw [inf_add, inf_add]
  | aff x1 y1 => cases Q with
    | inf => rw [add_inf, inf_add]
    | aff x2 y2 => cases R with
      | inf => rw [add_inf, add_inf]
      | aff x3 y3 =>
        by_cases n12 : x1 = x2 ∧ y1 = -y2
        · have e : (Pt.aff x1 y1 : Pt (Fin n)) = negP (.aff x2 y2) := by simp only [negP]; rw [n12.1, n12.2]
          rw [add_eq_neg g hP n12, inf_add, add_comm g hP (add_on g hQ hR), add_comm g hQ hR, e]
          exact (add_cancel g hR hQ).symm
        by_cases n23 : x2 = x3 ∧ y2 = -y3
        · have e : (Pt.aff x3 y3 : Pt (Fin n)) = negP (.aff x2 y2) := by simp only [negP]; rw [n23.1, n23.2, nn]
          rw [add_eq_neg g hQ n23, add_inf, e]
          exact add_cancel g hP hQ
        have hPQ := add_on g hP hQ
        have hQR := add_on g hQ hR
        have hna := neg_add g hP hQ
        have hnb := neg_add g hQ hR
        have hcA := add_cancel g (neg_on hP) (neg_on hQ)
        have hcB := add_cancel g (neg_on hR) (neg_on hQ)
        rw [neg_neg] at hcA hcB
        have hcm := add_comm g hQ (add_on g (neg_on hP) (neg_on hQ))
        have hcm2 := add_comm g (neg_on hQ) (neg_on hR)
        obtain ⟨l, sl⟩ := slope_ex g hP hQ n12
        obtain ⟨m, sm⟩ := slope_ex g hQ hR n23
        rw [add_slope g hP hQ n12 sl] at hPQ hna ⊢
        rw [add_slope g hQ hR n23 sm] at hQR hnb ⊢
        obtain ⟨l1, l2⟩ := sl
        obtain ⟨m1, m2⟩ := sm
        generalize ha : l^2-x1-x2 = a at *
        generalize hb : l*(x1-a)-y1 = b at *
        generalize hc : m^2-x2-x3 = c at *
        generalize hd : m*(x2-c)-y2 = d at *
        by_cases nS : a = x3 ∧ b = -y3
        · rw [add_eq_neg g hPQ nS]
          have e : (Pt.aff x3 y3 : Pt (Fin n)) = negP (.aff a b) := by simp only [negP]; rw [nS.1, nS.2, nn]
          have hT : (Pt.aff c d : Pt (Fin n)) = negP (.aff x1 y1) := by
            have h0 : addP (.aff x2 y2) (.aff x3 y3) = (Pt.aff c d : Pt (Fin n)) := by rw [add_slope g hQ hR n23 ⟨m1, m2⟩, hc, hd]
            rw [← h0, e, hna, hcm]
            exact hcA
          rw [hT]
          exact (add_self_neg _ g hP).symm
        by_cases nT : x1 = c ∧ y1 = -d
        · rw [add_eq_neg g hP nT]
          have e : (Pt.aff x1 y1 : Pt (Fin n)) = negP (.aff c d) := by simp only [negP]; rw [nT.1, nT.2]
          have hS : (Pt.aff a b : Pt (Fin n)) = negP (.aff x3 y3) := by
            have h0 : addP (.aff x1 y1) (.aff x2 y2) = (Pt.aff a b : Pt (Fin n)) := by rw [add_slope g hP hQ n12 ⟨l1, l2⟩, ha, hb]
            rw [← h0, e, hnb, hcm2]
            exact hcB
          rw [hS, add_comm g (neg_on hR) hR]
          exact add_self_neg _ g hR
        obtain ⟨p, sp⟩ := slope_ex g hPQ hR nS
        obtain ⟨q, sq⟩ := slope_ex g hP hQR nT
        rw [add_slope g hPQ hR nS sp, add_slope g hP hQR nT sq]
        obtain ⟨p1, p2⟩ := sp
        obtain ⟨q1, q2⟩ := sq
        have o1 : y1^2 = x1^3+7 := hP
        have o2 : y2^2 = x2^3+7 := hQ
        have o3 : y3^2 = x3^3+7 := hR
        have oS : b^2 = a^3+7 := hPQ
        have oT : d^2 = c^3+7 := hQR
        have q2' : q*(d+y1) = c^2+c*x1+x1^2 := sw2 q2
        have hy1 := y_ne g hP
        have hy2 := y_ne g hQ
        have key : p^2 - a - x3 = q^2 - x1 - c ∧ p*(a - (p^2 - a - x3)) - b = q*(x1 - (p^2 - a - x3)) - y1 := by
          rcases nondeg n12 with d1 | d1 <;> rcases nondeg n23 with d2 | d2 <;> by_cases d3 : x3 - a = 0 <;> by_cases d4 : c - x1 = 0
          · exfalso
            have e1 : a = x3 := sub0 d3
            have e2 : c = x1 := (sub0 d4).symm
            subst e1 e2
            have e3 : b = y3 := by
              rcases same_x g (show On a b from oS) (show On a y3 from o3) with h | h
              · exact h
              · exact absurd ⟨rfl, h⟩ nS
            have e4 : y1 = d := by
              rcases same_x g (show On c y1 from o1) (show On c d from oT) with h | h
              · exact h
              · exact absurd ⟨rfl, h⟩ nT
            subst e3 e4
            exact bs g l1 m1 ha.symm hb.symm hc.symm hd.symm hy1 hy2
          · exact as0010 g o1 o2 o3 l1 l2 m1 m2 ha.symm hb.symm hc.symm hd.symm p1 p2 q1 q2' d1 d2 ((nondeg nS).resolve_left (fun h => h d3)) d4
          · exact as0001 g o1 o2 o3 l1 l2 m1 m2 ha.symm hb.symm hc.symm hd.symm p1 p2 q1 q2' d1 d2 d3 (fun e => (nondeg nT).resolve_left (fun h => h d4) (cm0 e))
          · exact as0000 g o1 o2 o3 l1 l2 m1 m2 ha.symm hb.symm hc.symm hd.symm p1 p2 q1 q2' d1 d2 d3 d4
          · exfalso
            have e1 : a = x3 := sub0 d3
            have e2 : c = x1 := (sub0 d4).symm
            subst e1 e2
            have e3 : b = y3 := by
              rcases same_x g (show On a b from oS) (show On a y3 from o3) with h | h
              · exact h
              · exact absurd ⟨rfl, h⟩ nS
            have e4 : y1 = d := by
              rcases same_x g (show On c y1 from o1) (show On c d from oT) with h | h
              · exact h
              · exact absurd ⟨rfl, h⟩ nT
            subst e3 e4
            exact bs g l1 m1 ha.symm hb.symm hc.symm hd.symm hy1 hy2
          · exact as0110 g o1 o2 o3 l1 l2 m1 m2 ha.symm hb.symm hc.symm hd.symm p1 p2 q1 q2' d1 d2 ((nondeg nS).resolve_left (fun h => h d3)) d4
          · exact as0101 g o1 o2 o3 l1 l2 m1 m2 ha.symm hb.symm hc.symm hd.symm p1 p2 q1 q2' d1 d2 d3 (fun e => (nondeg nT).resolve_left (fun h => h d4) (cm0 e))
          · exact as0100 g o1 o2 o3 l1 l2 m1 m2 ha.symm hb.symm hc.symm hd.symm p1 p2 q1 q2' d1 d2 d3 d4
          · exfalso
            have e1 : a = x3 := sub0 d3
            have e2 : c = x1 := (sub0 d4).symm
            subst e1 e2
            have e3 : b = y3 := by
              rcases same_x g (show On a b from oS) (show On a y3 from o3) with h | h
              · exact h
              · exact absurd ⟨rfl, h⟩ nS
            have e4 : y1 = d := by
              rcases same_x g (show On c y1 from o1) (show On c d from oT) with h | h
              · exact h
              · exact absurd ⟨rfl, h⟩ nT
            subst e3 e4
            exact bs g l1 m1 ha.symm hb.symm hc.symm hd.symm hy1 hy2
          · exact as1010 g o1 o2 o3 l1 l2 m1 m2 ha.symm hb.symm hc.symm hd.symm p1 p2 q1 q2' d1 d2 ((nondeg nS).resolve_left (fun h => h d3)) d4
          · exact as1001 g o1 o2 o3 l1 l2 m1 m2 ha.symm hb.symm hc.symm hd.symm p1 p2 q1 q2' d1 d2 d3 (fun e => (nondeg nT).resolve_left (fun h => h d4) (cm0 e))
          · exact as1000 g o1 o2 o3 l1 l2 m1 m2 ha.symm hb.symm hc.symm hd.symm p1 p2 q1 q2' d1 d2 d3 d4
          · exfalso
            have e1 : a = x3 := sub0 d3
            have e2 : c = x1 := (sub0 d4).symm
            subst e1 e2
            have e3 : b = y3 := by
              rcases same_x g (show On a b from oS) (show On a y3 from o3) with h | h
              · exact h
              · exact absurd ⟨rfl, h⟩ nS
            have e4 : y1 = d := by
              rcases same_x g (show On c y1 from o1) (show On c d from oT) with h | h
              · exact h
              · exact absurd ⟨rfl, h⟩ nT
            subst e3 e4
            exact bs g l1 m1 ha.symm hb.symm hc.symm hd.symm hy1 hy2
          · exact as1110 g o1 o2 o3 l1 l2 m1 m2 ha.symm hb.symm hc.symm hd.symm p1 p2 q1 q2' d1 d2 ((nondeg nS).resolve_left (fun h => h d3)) d4
          · exact as1101 g o1 o2 o3 l1 l2 m1 m2 ha.symm hb.symm hc.symm hd.symm p1 p2 q1 q2' d1 d2 d3 (fun e => (nondeg nT).resolve_left (fun h => h d4) (cm0 e))
          · exact as1100 g o1 o2 o3 l1 l2 m1 m2 ha.symm hb.symm hc.symm hd.symm p1 p2 q1 q2' d1 d2 d3 d4
        obtain ⟨k1, k2⟩ := key
        rw [k2, k1]
theorem eq_zero {a b : Fin n} : a - b = 0 ↔ b = a := ⟨fun h => by grobner, fun h => by grobner⟩
/-- when the program's sum is a doubling, or the point at infinity -/
theorem jcase {X1 Y1 Z1 X2 Y2 Z2 x1 y1 x2 y2 : Fin n} (g : Good n) (hr1 : JR X1 Y1 Z1 (.aff x1 y1)) (hr2 : JR X2 Y2 Z2 (.aff x2 y2)) :
    (X2*(Z1*Z1) - X1*(Z2*Z2) = 0 ↔ x1 = x2) ∧ (Y2*(Z1*(Z1*Z1)) - Y1*(Z2*(Z2*Z2)) = 0 ↔ y1 = y2) := by
  obtain ⟨hz1, rfl, rfl⟩ := hr1
  obtain ⟨hz2, rfl, rfl⟩ := hr2
  have hz := mul_ne g (sq_ne g hz1) (sq_ne g hz2)
  have hz' := mul_ne g (cube_ne g hz1) (cube_ne g hz2)
  refine ⟨⟨fun e => ?_, fun e => by subst e; grobner⟩, ⟨fun e => ?_, fun e => by subst e; grobner⟩⟩
  · rcases zero_or g (show (x2 - x1)*(Z1^2*Z2^2) = 0 by grobner) with h | h
    · exact eq_zero.1 h
    · exact absurd h hz
  · rcases zero_or g (show (y2 - y1)*(Z1^3*Z2^3) = 0 by grobner) with h | h
    · exact eq_zero.1 h
    · exact absurd h hz'
end
end Go.Proofs.YtlofddoojkeakaaDoor.Cv
