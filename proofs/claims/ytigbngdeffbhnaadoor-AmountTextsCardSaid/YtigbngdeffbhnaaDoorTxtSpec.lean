/- Amounts as text, in plain Lean: digits, numbers, what is read of a text. -/
import Derived.Test.YtigbngdeffbhnaaDoorAmtT
import Derived.Test.YtigbngdeffbhnaaDoorShelf
import Derived.Lib.ParseIntB
namespace Go.Proofs.YtigbngdeffbhnaaDoor
set_option linter.unusedVariables false
set_option linter.unusedSimpArgs false
open Go Go.RowKit

def isD (c : UInt8) : Bool := decide (48 ≤ c.toNat) && decide (c.toNat ≤ 57)
def dv (c : UInt8) : Nat := c.toNat - 48
theorem isD_iff {c : UInt8} : isD c = true ↔ 48 ≤ c.toNat ∧ c.toNat ≤ 57 := by simp [isD]
def numF (acc : Nat) (l : List UInt8) : Nat := l.foldl (fun a c => a * 10 + dv c) acc
theorem numF_nil (a : Nat) : numF a [] = a := rfl
theorem numF_cons (a : Nat) (c : UInt8) (l : List UInt8) : numF a (c :: l) = numF (a * 10 + dv c) l := by unfold numF; rw [List.foldl_cons]
theorem numF_append (a : Nat) (l m : List UInt8) : numF a (l ++ m) = numF (numF a l) m := by simp [numF]
theorem dv_48 : dv 48 = 0 := by decide +kernel
theorem numF_zero (a : Nat) (l : List UInt8) : numF a (48 :: l) = numF (a * 10) l := by
  rw [numF_cons, dv_48, Nat.add_zero]
theorem numF_zeros (m : Nat) (a : Nat) : numF a (List.replicate m (48 : UInt8)) = a * (10 ^ m : Nat) := by
  induction m generalizing a with
  | zero => simp [numF]
  | succ m ih => rw [List.replicate_succ, numF_zero, ih, Nat.pow_succ', Nat.mul_assoc]
theorem numF_lt (l : List UInt8) : ∀ (a : Nat), l.all isD = true → numF a l < (a + 1) * 10 ^ l.length := by
  induction l with
  | nil => intro a _; simp [numF]
  | cons c l ih =>
    intro a h
    rw [List.all_cons, Bool.and_eq_true] at h
    have hc := isD_iff.1 h.1
    rw [numF_cons, List.length_cons, Nat.pow_succ']
    have := ih (a * 10 + dv c) h.2
    have hd : dv c ≤ 9 := by unfold dv; omega
    have h2 : (a * 10 + dv c + 1) * 10 ^ l.length ≤ ((a + 1) * 10) * 10 ^ l.length := Nat.mul_le_mul_right _ (by omega)
    rw [Nat.mul_assoc] at h2
    omega
theorem numF_ge (l : List UInt8) : ∀ a, a * 10 ^ l.length ≤ numF a l := by
  induction l with
  | nil => intro a; simp [numF]
  | cons c l ih =>
    intro a
    rw [numF_cons, List.length_cons, Nat.pow_succ']
    have := ih (a * 10 + dv c)
    have h2 : (a * 10) * 10 ^ l.length ≤ (a * 10 + dv c) * 10 ^ l.length := Nat.mul_le_mul_right _ (by omega)
    rw [Nat.mul_assoc] at h2
    omega
theorem numF_mono (l : List UInt8) (a : Nat) : a ≤ numF a l := by
  have h := numF_ge l a
  have h2 : 1 ≤ 10 ^ l.length := Nat.pow_pos (by omega)
  have h3 : a * 1 ≤ a * 10 ^ l.length := Nat.mul_le_mul_left _ h2
  omega
/-- the reference's reading, which stops counting beyond the greatest amount -/
def capF (acc : Nat) (l : List UInt8) : Nat := l.foldl (fun a c => if a ≤ 2100000000000000 then a * 10 + dv c else a) acc
theorem capF_cons (a : Nat) (c : UInt8) (l : List UInt8) : capF a (c :: l) = capF (if a ≤ 2100000000000000 then a * 10 + dv c else a) l := by unfold capF; rw [List.foldl_cons]
theorem capF_snoc (a : Nat) (l : List UInt8) (c : UInt8) : capF a (l ++ [c]) = if capF a l ≤ 2100000000000000 then capF a l * 10 + dv c else capF a l := by unfold capF; rw [List.foldl_append]; rfl
theorem capF_mono (l : List UInt8) : ∀ a, a ≤ capF a l := by
  induction l with
  | nil => intro a; simp [capF]
  | cons c l ih =>
    intro a
    rw [capF_cons]
    have := ih (if a ≤ 2100000000000000 then a * 10 + dv c else a)
    split at this <;> split <;> omega
theorem capF_eq (l : List UInt8) : ∀ a, numF a l ≤ 2100000000000000 → capF a l = numF a l := by
  induction l with
  | nil => intro a _; rfl
  | cons c l ih =>
    intro a h
    have h2 := numF_mono (c :: l) a
    rw [capF_cons, if_pos (by omega)]
    exact ih _ h
theorem capF_big (l : List UInt8) : ∀ a, 21000000 < a * 10 ^ l.length → 21000000 < capF a l := by
  induction l with
  | nil => intro a h; simpa [capF] using h
  | cons c l ih =>
    intro a h
    rw [capF_cons]
    split
    · refine ih _ (Nat.lt_of_lt_of_le h ?_)
      rw [List.length_cons, Nat.pow_succ', ← Nat.mul_assoc]
      exact Nat.mul_le_mul_right _ (by omega)
    · have := capF_mono l a
      omega
theorem capF_lt (l : List UInt8) : ∀ a, a < 21000000000000011 → l.all isD = true → capF a l < 21000000000000011 := by
  induction l with
  | nil => intro a h _; simpa [capF] using h
  | cons c l ih =>
    intro a h hd
    rw [List.all_cons, Bool.and_eq_true] at hd
    have hc := isD_iff.1 hd.1
    have : dv c ≤ 9 := by unfold dv; omega
    rw [capF_cons]
    refine ih _ ?_ hd.2
    split <;> omega
/-! what is read of a text -/
def coinsL (L : List UInt8) : List UInt8 := L.takeWhile (fun c => c != 46)
def tailL (L : List UInt8) : List UInt8 := L.dropWhile (fun c => c != 46)
theorem coins_tail (L : List UInt8) : coinsL L ++ tailL L = L := List.takeWhile_append_dropWhile
theorem coins_no (L : List UInt8) : ∀ c, c ∈ coinsL L → c ≠ 46 := by
  intro c hc
  unfold coinsL at hc
  induction L with
  | nil => simp at hc
  | cons x l ih =>
    rw [List.takeWhile_cons] at hc
    split at hc
    · rename_i hx
      rcases List.mem_cons.1 hc with rfl | hm
      · simpa using hx
      · exact ih hm
    · simp at hc
theorem tail_cons (L : List UInt8) : tailL L = [] ∨ ∃ r, tailL L = 46 :: r := by
  induction L with
  | nil => exact .inl rfl
  | cons c l ih =>
    unfold tailL at ih ⊢
    rw [List.dropWhile_cons]
    by_cases h : c = 46
    · subst h
      exact .inr ⟨l, by simp⟩
    · rw [if_pos (by simpa using h)]
      exact ih
theorem split_parts {c r : List UInt8} (h : ∀ x, x ∈ c → x ≠ 46) : coinsL (c ++ 46 :: r) = c ∧ tailL (c ++ 46 :: r) = 46 :: r := by
  unfold coinsL tailL
  rw [List.takeWhile_append_of_pos (fun x hx => by simpa using h x hx), List.dropWhile_append_of_pos (fun x hx => by simpa using h x hx)]
  simp
def badL (c t : List UInt8) : Prop :=
  c.all isD = false ∨ c = [] ∨ (c.getD 0 0 = 48 ∧ 1 < c.length) ∨
    (t ≠ [] ∧ (t.tail.all isD = false ∨ t.tail = [] ∨ 8 < t.tail.length))
instance (c t : List UInt8) : Decidable (badL c t) := by unfold badL; infer_instance
def valL (c t : List UInt8) : Int := (numF 0 (c ++ t.tail ++ List.replicate (8 - t.tail.length) 48) : Nat)
def parV' (c t : List UInt8) : Int := if badL c t then 0 else if 8 < c.length then 0 else vV (valL c t)
def parE' (c t : List UInt8) : Int := if badL c t then 3 else if 8 < c.length then 6 else vE (valL c t)
def parV (L : List UInt8) : Int := parV' (coinsL L) (tailL L)
def parE (L : List UInt8) : Int := parE' (coinsL L) (tailL L)
/-! the reference's way -/
def kL (L : List UInt8) : Nat := (L.takeWhile isD).length
def formL (L : List UInt8) : Prop :=
  (kL L = 0 ∨ (1 < kL L ∧ L.getD 0 0 = 48)) ∨ (kL L < L.length ∧ (L.getD (kL L) 0 ≠ 46 ∨ kL L + 1 = L.length ∨ 9 < L.length - kL L)) ∨ (L.drop (kL L + 1)).all isD = false
instance (L : List UInt8) : Decidable (formL L) := by unfold formL; infer_instance
def fracL (L : List UInt8) : List UInt8 := L.drop (kL L + 1)
def rvalL (L : List UInt8) : Nat := numF (capF 0 (L.take (kL L))) (fracL L) * 10 ^ (8 - (fracL L).length)
def rparV (L : List UInt8) : Int := if formL L then 0 else if 21000000 < capF 0 (L.take (kL L)) then 0 else vV (rvalL L)
def rparE (L : List UInt8) : Int := if formL L then 3 else if 21000000 < capF 0 (L.take (kL L)) then 6 else vE (rvalL L)
theorem takeWhile_all {p : UInt8 → Bool} {c : List UInt8} (t : List UInt8) (h : c.all p = true) (ht : ∀ x r, t = x :: r → p x = false) : (c ++ t).takeWhile p = c := by
  rw [List.takeWhile_append_of_pos (fun x hx => List.all_eq_true.1 h x hx)]
  cases t with
  | nil => simp
  | cons x r => rw [List.takeWhile_cons, ht x r rfl]; simp
theorem takeWhile_part {c : List UInt8} (t : List UInt8) (h : c.all isD = false) : ((c ++ t).takeWhile isD).length < c.length ∧ isD ((c ++ t).getD ((c ++ t).takeWhile isD).length 0) = false ∧ (c ++ t).getD ((c ++ t).takeWhile isD).length 0 ∈ c := by
  induction c with
  | nil => simp at h
  | cons x c ih =>
    rw [List.cons_append, List.takeWhile_cons]
    by_cases hx : isD x = true
    · rw [List.all_cons, hx, Bool.true_and] at h
      obtain ⟨h1, h2, h3⟩ := ih h
      rw [if_pos hx]
      simp only [List.length_cons, List.getD_cons_succ]
      exact ⟨by omega, h2, List.mem_cons_of_mem _ h3⟩
    · rw [if_neg hx]
      simp [hx]
theorem valL_neg (v : Int) (h : 2100000000000000 < v) : vV v = 0 ∧ vE v = 6 := by
  have : validB v = false := by unfold validB; simp; omega
  simp [vV, vE, this]
theorem parse_core (c t : List UInt8) (hno : ∀ x, x ∈ c → x ≠ 46) (htt : t = [] ∨ ∃ r, t = 46 :: r) : rparV (c ++ t) = parV' c t ∧ rparE (c ++ t) = parE' c t := by
  have hll : (c ++ t).length = c.length + t.length := by simp
  by_cases hd : c.all isD = false
  · obtain ⟨h1, h2, h3⟩ := takeWhile_part t hd
    have hb : badL c t := .inl hd
    have hf : formL (c ++ t) := by
      refine .inr (.inl ⟨?_, .inl (hno _ h3)⟩)
      unfold kL; omega
    unfold rparV rparE parV' parE'
    rw [if_pos hb, if_pos hb, if_pos hf, if_pos hf]
    exact ⟨rfl, rfl⟩
  · have hd : c.all isD = true := by simpa using hd
    have hk : (c ++ t).takeWhile isD = c := takeWhile_all _ hd (fun x r hx => by
      rcases htt with ht | ⟨r', ht⟩
      · rw [ht] at hx; cases hx
      · rw [ht] at hx; cases hx; decide)
    have hkl : kL (c ++ t) = c.length := by unfold kL; rw [hk]
    have htk : (c ++ t).take (kL (c ++ t)) = c := by rw [hkl]; simp
    have hg0 : c ≠ [] → (c ++ t).getD 0 0 = c.getD 0 0 := by
      intro hne
      cases c with
      | nil => exact absurd rfl hne
      | cons x c => simp
    have hfr : fracL (c ++ t) = t.tail := by
      unfold fracL
      rw [hkl]
      rcases htt with ht | ⟨r', ht⟩
      · rw [ht]; simp
      · rw [ht]; simp
    have hgk : ∀ r, t = 46 :: r → (c ++ t).getD (kL (c ++ t)) 0 = 46 := by
      intro r hr
      rw [hkl, hr]
      simp
    have hbf : formL (c ++ t) ↔ badL c t := by
      have hfr' : (c ++ t).drop (kL (c ++ t) + 1) = t.tail := hfr
      unfold formL badL
      rw [hfr']
      rw [hkl] at hgk ⊢
      constructor
      · rintro ((h | ⟨h1, h2⟩) | ⟨h1, h2⟩ | h)
        · exact .inr (.inl (List.eq_nil_of_length_eq_zero h))
        · exact .inr (.inr (.inl ⟨by rw [← hg0 (by intro e; rw [e] at h1; simp at h1)]; exact h2, h1⟩))
        · rcases htt with ht | ⟨r', ht⟩
          · rw [ht] at hll h1; simp at hll h1
          · refine .inr (.inr (.inr ⟨by rw [ht]; simp, ?_⟩))
            rw [hgk r' ht] at h2
            subst ht
            simp only [List.length_cons, List.tail_cons] at hll ⊢
            rcases h2 with h2 | h2 | h2
            · exact absurd rfl h2
            · exact .inr (.inl (List.eq_nil_of_length_eq_zero (by omega)))
            · exact .inr (.inr (by omega))
        · refine .inr (.inr (.inr ⟨?_, .inl h⟩))
          intro e
          rw [e] at h; simp at h
      · rintro (h | h | ⟨h1, h2⟩ | ⟨h1, h2⟩)
        · rw [hd] at h; cases h
        · exact .inl (.inl (by rw [h]; rfl))
        · exact .inl (.inr ⟨h2, by rw [hg0 (by intro e; rw [e] at h2; simp at h2)]; exact h1⟩)
        · rcases htt with ht | ⟨r', ht⟩
          · exact absurd ht h1
          · rcases h2 with h2 | h2 | h2
            · exact .inr (.inr h2)
            · subst ht
              simp only [List.length_cons, List.tail_cons] at hll h2
              subst h2
              exact .inr (.inl ⟨by simp, .inr (.inl (by simp))⟩)
            · subst ht
              simp only [List.length_cons, List.tail_cons] at hll h2
              exact .inr (.inl ⟨by omega, .inr (.inr (by omega))⟩)
    unfold rparV rparE parV' parE'
    by_cases hb : badL c t
    · rw [if_pos hb, if_pos hb, if_pos (hbf.2 hb), if_pos (hbf.2 hb)]
      exact ⟨rfl, rfl⟩
    · rw [if_neg hb, if_neg hb, if_neg (fun h => hb (hbf.1 h)), if_neg (fun h => hb (hbf.1 h)), htk]
      have hne : c ≠ [] := fun e => hb (.inr (.inl e))
      have hfst : ¬ (c.getD 0 0 = 48 ∧ 1 < c.length) := fun e => hb (.inr (.inr (.inl e)))
      have hfl : t.tail.length ≤ 8 := by
        rcases htt with ht | ⟨r', ht⟩
        · rw [ht]; simp
        · exact Nat.le_of_not_lt (fun e => hb (.inr (.inr (.inr ⟨by rw [ht]; simp, .inr (.inr e)⟩))))
      have hrv : rvalL (c ++ t) = numF (capF 0 c) t.tail * 10 ^ (8 - t.tail.length) := by unfold rvalL; rw [htk, hfr]
      clear hbf hgk hg0 hfr htk hk hkl
      by_cases h8 : 8 < c.length
      · have hbig : 21000000 < capF 0 c := by
          cases c with
          | nil => exact absurd rfl hne
          | cons x c =>
            rw [List.all_cons, Bool.and_eq_true] at hd
            have hx := isD_iff.1 hd.1
            simp only [List.length_cons] at h8 hfst
            have hx0 : x ≠ 48 := fun e => hfst ⟨by simp [e], by omega⟩
            have hx1 : x.toNat ≠ 48 := fun e => hx0 (UInt8.toNat_inj.1 (by rw [e]; rfl))
            rw [capF_cons, if_pos (by omega)]
            refine capF_big _ _ ?_
            have h2 : 10 ^ 8 ≤ 10 ^ c.length := Nat.pow_le_pow_right (by omega) (by omega)
            have h3 : 1 ≤ 0 * 10 + dv x := by unfold dv; omega
            have h4 := Nat.mul_le_mul h3 h2
            omega
        rw [if_pos hbig, if_pos hbig, if_pos h8, if_pos h8]
        exact ⟨rfl, rfl⟩
      · have hlt := numF_lt c 0 hd
        have hp8 : 10 ^ c.length ≤ 10 ^ 8 := Nat.pow_le_pow_right (by omega) (by omega)
        have hcap : capF 0 c = numF 0 c := capF_eq _ _ (by omega)
        have hval : valL c t = ((rvalL (c ++ t) : Nat) : Int) := by
          unfold valL
          rw [hrv, hcap, numF_append, numF_append, numF_zeros]
        rw [if_neg h8, if_neg h8]
        by_cases hg : 21000000 < capF 0 c
        · rw [if_pos hg, if_pos hg]
          have hbig : 2100000000000000 < valL c t := by
            rw [hval, hrv]
            have h1 := numF_ge t.tail (capF 0 c)
            have h2 : 10 ^ t.tail.length * 10 ^ (8 - t.tail.length) = 10 ^ 8 := by rw [← Nat.pow_add]; congr 1; omega
            have h3 := Nat.mul_le_mul_right (10 ^ (8 - t.tail.length)) h1
            rw [Nat.mul_assoc, h2] at h3
            generalize numF (capF 0 c) t.tail * 10 ^ (8 - t.tail.length) = X at *
            omega
          obtain ⟨e1, e2⟩ := valL_neg _ hbig
          rw [e1, e2]
          exact ⟨rfl, rfl⟩
        · rw [if_neg hg, if_neg hg, hval]
          exact ⟨rfl, rfl⟩
/-- both ways read the same -/
theorem parse_same (L : List UInt8) : rparV L = parV L ∧ rparE L = parE L := by
  have h := parse_core (coinsL L) (tailL L) (coins_no L) (tail_cons L)
  rwa [coins_tail] at h
end Go.Proofs.YtigbngdeffbhnaaDoor
