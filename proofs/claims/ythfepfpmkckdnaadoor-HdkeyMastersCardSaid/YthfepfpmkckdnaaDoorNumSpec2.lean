/- Words added, targets, bits, subsidies and long division, in plain Lean. -/
import Derived.Test.YthfepfpmkckdnaaDoorNumSpec
namespace Go.Proofs.YthfepfpmkckdnaaDoor
set_option linter.unusedVariables false
set_option linter.unusedSimpArgs false
open Go Go.RowKit

/-- what is carried into word i -/
def wcarry (u v : Int) (i : Nat) : Int := (u % 18446744073709551616 ^ i + v % 18446744073709551616 ^ i) / 18446744073709551616 ^ i
theorem B64_pos (i : Nat) : (0 : Int) < 18446744073709551616 ^ i := Int.pow_pos (by decide)
theorem words_getD' (v : Int) (i : Nat) (h : i < 4) : (words v).getD i 0 = v / 18446744073709551616 ^ i % 18446744073709551616 := by
  have : i = 0 ∨ i = 1 ∨ i = 2 ∨ i = 3 := by omega
  rcases this with rfl | rfl | rfl | rfl <;> simp [words]
theorem emod_pow_succ (u B : Int) (hB : 0 < B) (i : Nat) : u % B ^ (i + 1) = u % B ^ i + B ^ i * (u / B ^ i % B) := by
  have hp : 0 < B ^ i := Int.pow_pos hB
  have h1 := Int.emod_add_mul_ediv u (B ^ i)
  have h2 := Int.emod_add_mul_ediv (u / B ^ i) B
  have e : u = (u % B ^ i + B ^ i * (u / B ^ i % B)) + B ^ (i + 1) * (u / B ^ i / B) := by
    have h3 : B ^ (i + 1) * (u / B ^ i / B) = B ^ i * (B * (u / B ^ i / B)) := by rw [Int.pow_succ, Int.mul_assoc]
    rw [h3, Int.add_assoc, ← Int.mul_add, h2, h1]
  have r1 := Int.emod_nonneg u (Int.ne_of_gt hp)
  have r2 := Int.emod_lt_of_pos u hp
  have r3 := Int.emod_nonneg (u / B ^ i) (Int.ne_of_gt hB)
  have r4 := Int.emod_lt_of_pos (u / B ^ i) hB
  conv => lhs; rw [e]
  rw [Int.add_mul_emod_self_left, Int.emod_eq_of_lt]
  · have := Int.mul_nonneg (Int.le_of_lt hp) r3
    omega
  · have h5 : B ^ i * (u / B ^ i % B) ≤ B ^ i * (B - 1) := Int.mul_le_mul_of_nonneg_left (by omega) (Int.le_of_lt hp)
    have h6 : B ^ i * (B - 1) = B ^ (i + 1) - B ^ i := by rw [Int.pow_succ, Int.mul_sub, Int.mul_one]
    omega
theorem wcarry_zero (u v : Int) : wcarry u v 0 = 0 := by simp [wcarry, Int.emod_one]
theorem wcarry_step (u v : Int) (i : Nat) (h : i < 4) :
    ((words u).getD i 0 + (words v).getD i 0 + wcarry u v i) / 18446744073709551616 = wcarry u v (i + 1) ∧
    ((words u).getD i 0 + (words v).getD i 0 + wcarry u v i) % 18446744073709551616 = (words (u + v)).getD i 0 := by
  have hp := B64_pos i
  have key : (words u).getD i 0 + (words v).getD i 0 + wcarry u v i = (u % 18446744073709551616 ^ (i + 1) + v % 18446744073709551616 ^ (i + 1)) / 18446744073709551616 ^ i := by
    rw [words_getD' _ _ h, words_getD' _ _ h, emod_pow_succ u _ (by decide), emod_pow_succ v _ (by decide), wcarry]
    generalize u % 18446744073709551616 ^ i = a
    generalize v % 18446744073709551616 ^ i = b
    generalize u / 18446744073709551616 ^ i % 18446744073709551616 = c
    generalize v / 18446744073709551616 ^ i % 18446744073709551616 = d
    rw [show a + 18446744073709551616 ^ i * c + (b + 18446744073709551616 ^ i * d) = (a + b) + 18446744073709551616 ^ i * (c + d) by rw [Int.mul_add]; omega, Int.add_mul_ediv_left _ _ (Int.ne_of_gt hp)]
    omega
  refine ⟨?_, ?_⟩
  · rw [key, wcarry, Int.ediv_ediv_of_nonneg (Int.le_of_lt hp), ← Int.pow_succ]
  · rw [key, words_getD' _ _ h]
    have e1 := Int.emod_add_mul_ediv u (18446744073709551616 ^ (i + 1))
    have e2 := Int.emod_add_mul_ediv v (18446744073709551616 ^ (i + 1))
    generalize hs : u % 18446744073709551616 ^ (i + 1) + v % 18446744073709551616 ^ (i + 1) = s
    have e3 : u + v = s + 18446744073709551616 ^ i * (18446744073709551616 * (u / 18446744073709551616 ^ (i + 1) + v / 18446744073709551616 ^ (i + 1))) := by
      rw [← Int.mul_assoc, ← Int.pow_succ, Nat.succ_eq_add_one, Int.mul_add]; omega
    conv => rhs; rw [e3]
    rw [Int.add_mul_ediv_left _ _ (Int.ne_of_gt hp), Int.add_mul_emod_self_left]
theorem wcarry_range (u v : Int) (i : Nat) : 0 ≤ wcarry u v i ∧ wcarry u v i ≤ 1 := by
  have hp := B64_pos i
  have r1 := Int.emod_nonneg u (Int.ne_of_gt hp)
  have r2 := Int.emod_lt_of_pos u hp
  have r3 := Int.emod_nonneg v (Int.ne_of_gt hp)
  have r4 := Int.emod_lt_of_pos v hp
  unfold wcarry
  refine ⟨Int.ediv_nonneg (by omega) (by omega), ?_⟩
  have : (u % 18446744073709551616 ^ i + v % 18446744073709551616 ^ i) / 18446744073709551616 ^ i < 2 := Int.ediv_lt_of_lt_mul hp (by omega)
  omega
theorem wcarry_four {u v : Int} (hu : 0 ≤ u) (hu' : u < 115792089237316195423570985008687907853269984665640564039457584007913129639936) (hv : 0 ≤ v) (hv' : v < 115792089237316195423570985008687907853269984665640564039457584007913129639936) : wcarry u v 4 = (u + v) / 115792089237316195423570985008687907853269984665640564039457584007913129639936 := by
  unfold wcarry
  rw [show (18446744073709551616 : Int) ^ 4 = 115792089237316195423570985008687907853269984665640564039457584007913129639936 by decide, Int.emod_eq_of_lt hu hu', Int.emod_eq_of_lt hv hv']
/-- what is wanting at word i -/
def wborrow (u v : Int) (i : Nat) : Int := -((u % 18446744073709551616 ^ i - v % 18446744073709551616 ^ i) / 18446744073709551616 ^ i)
theorem wborrow_zero (u v : Int) : wborrow u v 0 = 0 := by simp [wborrow, Int.emod_one]
theorem wborrow_step (u v : Int) (i : Nat) (h : i < 4) :
    -(((words u).getD i 0 - (words v).getD i 0 - wborrow u v i) / 18446744073709551616) = wborrow u v (i + 1) ∧
    ((words u).getD i 0 - (words v).getD i 0 - wborrow u v i) % 18446744073709551616 = (words (u - v)).getD i 0 := by
  have hp := B64_pos i
  have key : (words u).getD i 0 - (words v).getD i 0 - wborrow u v i = (u % 18446744073709551616 ^ (i + 1) - v % 18446744073709551616 ^ (i + 1)) / 18446744073709551616 ^ i := by
    rw [words_getD' _ _ h, words_getD' _ _ h, emod_pow_succ u _ (by decide), emod_pow_succ v _ (by decide), wborrow]
    generalize u % 18446744073709551616 ^ i = a
    generalize v % 18446744073709551616 ^ i = b
    generalize u / 18446744073709551616 ^ i % 18446744073709551616 = c
    generalize v / 18446744073709551616 ^ i % 18446744073709551616 = d
    rw [show a + 18446744073709551616 ^ i * c - (b + 18446744073709551616 ^ i * d) = (a - b) + 18446744073709551616 ^ i * (c - d) by rw [Int.mul_sub]; omega, Int.add_mul_ediv_left _ _ (Int.ne_of_gt hp)]
    omega
  refine ⟨?_, ?_⟩
  · rw [key, wborrow, Int.ediv_ediv_of_nonneg (Int.le_of_lt hp), ← Int.pow_succ]
  · rw [key, words_getD' _ _ h]
    have e1 := Int.emod_add_mul_ediv u (18446744073709551616 ^ (i + 1))
    have e2 := Int.emod_add_mul_ediv v (18446744073709551616 ^ (i + 1))
    generalize hs : u % 18446744073709551616 ^ (i + 1) - v % 18446744073709551616 ^ (i + 1) = s
    have e3 : u - v = s + 18446744073709551616 ^ i * (18446744073709551616 * (u / 18446744073709551616 ^ (i + 1) - v / 18446744073709551616 ^ (i + 1))) := by
      rw [← Int.mul_assoc, ← Int.pow_succ, Nat.succ_eq_add_one, Int.mul_sub]; omega
    conv => rhs; rw [e3]
    rw [Int.add_mul_ediv_left _ _ (Int.ne_of_gt hp), Int.add_mul_emod_self_left]
theorem wborrow_range (u v : Int) (i : Nat) : 0 ≤ wborrow u v i ∧ wborrow u v i ≤ 1 := by
  have hp := B64_pos i
  have r1 := Int.emod_nonneg u (Int.ne_of_gt hp)
  have r2 := Int.emod_lt_of_pos u hp
  have r3 := Int.emod_nonneg v (Int.ne_of_gt hp)
  have r4 := Int.emod_lt_of_pos v hp
  unfold wborrow
  generalize u % 18446744073709551616 ^ i = a at *
  generalize v % 18446744073709551616 ^ i = b at *
  generalize (18446744073709551616 : Int) ^ i = M at *
  by_cases h : b ≤ a
  · rw [Int.ediv_eq_zero_of_lt (by omega) (by omega)]; omega
  · have : (a - b) / M = -1 := by
      rw [show a - b = (a - b + M) + M * (-1) by omega, Int.add_mul_ediv_left _ _ (Int.ne_of_gt hp), Int.ediv_eq_zero_of_lt (by omega) (by omega)]; rfl
    omega
theorem wborrow_four {u v : Int} (hu : 0 ≤ u) (hu' : u < 115792089237316195423570985008687907853269984665640564039457584007913129639936) (hv : 0 ≤ v) (hv' : v < 115792089237316195423570985008687907853269984665640564039457584007913129639936) : wborrow u v 4 = if u < v then 1 else 0 := by
  unfold wborrow
  rw [show (18446744073709551616 : Int) ^ 4 = 115792089237316195423570985008687907853269984665640564039457584007913129639936 by decide, Int.emod_eq_of_lt hu hu', Int.emod_eq_of_lt hv hv']
  split <;> omega
/-- byte i of three, the greatest first -/
def mB (m : Int) (i : Nat) : Int := m / 256 ^ (2 - i) % 256
theorem mB_byte (m : Int) (i : Nat) : Byte (mB m i) := ⟨by unfold mB; omega, by unfold mB; omega⟩
/-- the first k of the three bytes laid at place 32 - e -/
def expB (e : Nat) (m : Int) (k : Nat) : List Int := (List.range 32).map fun j => if 32 ≤ j + e ∧ j + e < 32 + k then mB m (j + e - 32) else 0
theorem expB_length (e : Nat) (m : Int) (k : Nat) : (expB e m k).length = 32 := by simp [expB]
theorem expB_getD (e : Nat) (m : Int) (k j : Nat) (h : j < 32) : (expB e m k).getD j 0 = if 32 ≤ j + e ∧ j + e < 32 + k then mB m (j + e - 32) else 0 := by
  simp [expB, List.getD, h]
theorem list_ext32 {a b : List Int} (ha : a.length = 32) (hb : b.length = 32) (h : ∀ j, j < 32 → a.getD j 0 = b.getD j 0) : a = b := by
  apply List.ext_getElem (by omega)
  intro j h1 h2
  have := h j (by omega)
  simpa [List.getD, h1, h2] using this
theorem expB_bytes (e : Nat) (m : Int) (k : Nat) : Bytes (expB e m k) := by
  intro x hx
  obtain ⟨j, _, rfl⟩ := List.mem_map.1 hx
  split
  · exact mB_byte _ _
  · exact ⟨by omega, by omega⟩
theorem expB_zero (e : Nat) (m : Int) : expB e m 0 = List.replicate 32 0 := by
  refine list_ext32 (expB_length ..) (by simp) (fun j h => ?_)
  rw [expB_getD _ _ _ _ h, if_neg (by omega), List.getD, List.getElem?_replicate, if_pos h]; rfl
theorem getD_set (l : List Int) (p j : Nat) (v : Int) (h : j < l.length) : (l.set p v).getD j 0 = if p = j then v else l.getD j 0 := by
  simp only [List.getD, List.getElem?_set]
  split <;> rename_i hp
  · subst hp; simp [h]
  · rfl
theorem expB_set (e : Nat) (m : Int) (k p : Nat) (h : p + e = 32 + k) (hp : p < 32) : (expB e m k).set p (mB m k) = expB e m (k + 1) := by
  refine list_ext32 (by simp [expB_length]) (expB_length ..) (fun j hj => ?_)
  rw [getD_set _ _ _ _ (by rw [expB_length]; exact hj), expB_getD _ _ _ _ hj, expB_getD _ _ _ _ hj]
  by_cases e1 : p = j
  · subst e1
    rw [if_pos rfl, if_pos (by omega), show p + e - 32 = k by omega]
  · rw [if_neg e1]
    by_cases e2 : 32 ≤ j + e ∧ j + e < 32 + k
    · rw [if_pos e2, if_pos (by omega)]
    · rw [if_neg e2, if_neg (by omega)]
theorem expB_out (e : Nat) (m : Int) (k : Nat) (h : 32 + k < e ∨ e ≤ k) : expB e m k = expB e m (k + 1) := by
  refine list_ext32 (expB_length ..) (expB_length ..) (fun j hj => ?_)
  rw [expB_getD _ _ _ _ hj, expB_getD _ _ _ _ hj]
  by_cases e2 : 32 ≤ j + e ∧ j + e < 32 + k
  · rw [if_pos e2, if_pos (by omega)]
  · rw [if_neg e2, if_neg (by omega)]
/-- does one of the first k bytes lie above all? -/
def expBad (e : Nat) (m : Int) (k : Nat) : Bool := (List.range k).any fun i => decide (32 + i < e) && mB m i != 0
theorem expBad_zero (e : Nat) (m : Int) : expBad e m 0 = false := rfl
theorem expBad_succ (e : Nat) (m : Int) (k : Nat) : expBad e m (k + 1) = (expBad e m k || (decide (32 + k < e) && mB m k != 0)) := by
  simp [expBad, List.range_succ]
theorem expBad_mono (e : Nat) (m : Int) {k k' : Nat} (h : k ≤ k') (hb : expBad e m k = true) : expBad e m k' = true := by
  obtain ⟨i, hi, hx⟩ := List.any_eq_true.1 hb
  exact List.any_eq_true.2 ⟨i, List.mem_range.2 (by have := List.mem_range.1 hi; omega), hx⟩
/-- bits as a number, whatever it is -/
def expand (x : Int) : Option (List Int) := if 8388608 ≤ x % 16777216 then none else if expBad (x / 16777216).toNat (x % 16777216) 3 = true then none else some (expB (x / 16777216).toNat (x % 16777216) 3)
/-- the reference's order: the lowest byte first -/
def expR (e : Nat) (m : Int) (k : Nat) : List Int := (List.range 32).map fun j => if 34 < j + max e 3 + k ∧ j + max e 3 ≤ 34 then m / 256 ^ (34 - j - e) % 256 else 0
theorem expR_length (e : Nat) (m : Int) (k : Nat) : (expR e m k).length = 32 := by simp [expR]
theorem expR_getD (e : Nat) (m : Int) (k j : Nat) (h : j < 32) : (expR e m k).getD j 0 = if 34 < j + max e 3 + k ∧ j + max e 3 ≤ 34 then m / 256 ^ (34 - j - e) % 256 else 0 := by
  simp [expR, List.getD, h]
theorem expR_bytes (e : Nat) (m : Int) (k : Nat) : Bytes (expR e m k) := by
  intro x hx
  obtain ⟨j, _, rfl⟩ := List.mem_map.1 hx
  split
  · exact ⟨by omega, by omega⟩
  · exact ⟨by omega, by omega⟩
theorem expR_zero (e : Nat) (m : Int) : expR e m 0 = List.replicate 32 0 := by
  refine list_ext32 (expR_length ..) (by simp) (fun j h => ?_)
  rw [expR_getD _ _ _ _ h, if_neg (by omega), List.getD, List.getElem?_replicate, if_pos h]; rfl
/-- the reference's byte k -/
def rB (e : Nat) (m : Int) (k : Nat) : Int := m / 256 ^ (3 - e) / 256 ^ k % 256
theorem rB_eq (e : Nat) (m : Int) (k : Nat) : rB e m k = m / 256 ^ (3 - e + k) % 256 := by
  rw [rB, Int.ediv_ediv_of_nonneg (Int.pow_nonneg (by decide)), ← Int.pow_add]
theorem expR_set (e : Nat) (m : Int) (k p : Nat) (h : p + max e 3 + k = 34) (hk : k < 3) : (expR e m k).set p (rB e m k) = expR e m (k + 1) := by
  refine list_ext32 (by simp [expR_length]) (expR_length ..) (fun j hj => ?_)
  rw [getD_set _ _ _ _ (by rw [expR_length]; exact hj), expR_getD _ _ _ _ hj, expR_getD _ _ _ _ hj]
  by_cases e1 : p = j
  · subst e1
    rw [if_pos rfl, if_pos (by omega), rB_eq, show 3 - e + k = 34 - p - e by omega]
  · rw [if_neg e1]
    by_cases e2 : 34 < j + max e 3 + k ∧ j + max e 3 ≤ 34
    · rw [if_pos e2, if_pos (by omega)]
    · rw [if_neg e2, if_neg (by omega)]
theorem expR_out (e : Nat) (m : Int) (k : Nat) (h : 34 < max e 3 + k) : expR e m k = expR e m (k + 1) := by
  refine list_ext32 (expR_length ..) (expR_length ..) (fun j hj => ?_)
  rw [expR_getD _ _ _ _ hj, expR_getD _ _ _ _ hj]
  by_cases e2 : 34 < j + max e 3 + k ∧ j + max e 3 ≤ 34
  · rw [if_pos e2, if_pos (by omega)]
  · rw [if_neg e2, if_neg (by omega)]
theorem expR_full (e : Nat) (m : Int) (h0 : 0 ≤ m) (h1 : m < 16777216) : expR e m 3 = expB e m 3 := by
  refine list_ext32 (expR_length ..) (expB_length ..) (fun j hj => ?_)
  rw [expR_getD _ _ _ _ hj, expB_getD _ _ _ _ hj]
  by_cases e2 : 32 ≤ j + e ∧ j + e < 32 + 3
  · rw [if_pos e2, if_pos (by omega), mB, show 2 - (j + e - 32) = 34 - j - e by omega]
  · rw [if_neg e2]
    by_cases e3 : 34 < j + max e 3 + 3 ∧ j + max e 3 ≤ 34
    · rw [if_pos e3]
      have h3 : 3 ≤ 34 - j - e := by omega
      obtain ⟨t, ht⟩ : ∃ t, 34 - j - e = 3 + t := ⟨34 - j - e - 3, by omega⟩
      rw [ht, Int.pow_add, ← Int.ediv_ediv_of_nonneg (by decide), show m / 256 ^ 3 = 0 from Int.ediv_eq_zero_of_lt h0 (by simpa using h1)]
      simp
    · rw [if_neg e3]
def badR (e : Nat) (m : Int) (k : Nat) : Bool := (List.range k).any fun i => decide (34 < max e 3 + i) && rB e m i != 0
theorem badR_zero (e : Nat) (m : Int) : badR e m 0 = false := rfl
theorem badR_succ (e : Nat) (m : Int) (k : Nat) : badR e m (k + 1) = (badR e m k || (decide (34 < max e 3 + k) && rB e m k != 0)) := by
  simp [badR, List.range_succ]
theorem badR_mono (e : Nat) (m : Int) {k k' : Nat} (h : k ≤ k') (hb : badR e m k = true) : badR e m k' = true := by
  obtain ⟨i, hi, hx⟩ := List.any_eq_true.1 hb
  exact List.any_eq_true.2 ⟨i, List.mem_range.2 (by have := List.mem_range.1 hi; omega), hx⟩
theorem badR_full (e : Nat) (m : Int) : badR e m 3 = expBad e m 3 := by
  by_cases h : e ≤ 3
  · have h1 : badR e m 3 = false := by
      apply Bool.eq_false_iff.2
      intro hb
      obtain ⟨i, hi, hx⟩ := List.any_eq_true.1 hb
      have := List.mem_range.1 hi
      simp only [Bool.and_eq_true, decide_eq_true_eq] at hx
      omega
    have h2 : expBad e m 3 = false := by
      apply Bool.eq_false_iff.2
      intro hb
      obtain ⟨i, hi, hx⟩ := List.any_eq_true.1 hb
      have := List.mem_range.1 hi
      simp only [Bool.and_eq_true, decide_eq_true_eq] at hx
      omega
    rw [h1, h2]
  · have e1 : ∀ k, rB e m k = m / 256 ^ k % 256 := fun k => by rw [rB_eq, show 3 - e + k = k by omega]
    simp only [badR_succ, expBad_succ, badR_zero, expBad_zero, e1, mB, Bool.false_or, show max e 3 = e by omega]
    rw [Bool.or_comm, Bool.or_comm (decide (34 < e + 0) && _), ← Bool.or_assoc]
    simp only [Nat.sub_zero, Nat.add_zero, show (34 < e + 2) = (32 < e) by simp; omega, show (34 < e + 1) = (32 + 1 < e) by simp; omega, show (34 < e) = (32 + 2 < e) by simp]
/-- the greatest target -/
def limitB : List Int := 127 :: 255 :: 255 :: List.replicate 29 0
theorem limit_expand : expand 545259519 = some limitB := by decide +kernel
/-- bits as a target -/
def target (x : Int) : Option (List Int) := match expand x with
  | none => none
  | some n => if n = List.replicate 32 0 ∨ be limitB < be n then none else some n
/-- how many noughts stand at the head -/
def lead (l : List Int) : Nat := (l.takeWhile (· == 0)).length
/-- k bytes from place f on as a number -/
def mant (l : List Int) (f : Nat) : Nat → Int
  | 0 => 0
  | k + 1 => mant l f k * 256 + l.getD (f + k) 0
def bitsOf' (l : List Int) (f : Nat) : Int := if 8388608 ≤ mant l f 3 then (33 - (f : Int)) * 16777216 + mant l f 3 / 256 else (32 - (f : Int)) * 16777216 + mant l f 3
/-- a number's bits -/
def bitsOf (l : List Int) : Int := bitsOf' l (lead l)
theorem lead_le (l : List Int) : lead l ≤ l.length := by
  unfold lead
  induction l with
  | nil => simp
  | cons a r ih => simp only [List.takeWhile_cons]; split <;> simp; omega
theorem Bytes.get {l : List Int} (h : Bytes l) (j : Nat) : 0 ≤ l.getD j 0 ∧ l.getD j 0 < 256 := h.getD j
theorem mant_range {l : List Int} (h : Bytes l) (f : Nat) : 0 ≤ mant l f 3 ∧ mant l f 3 < 16777216 := by
  have h0 := h.get f; have h1 := h.get (f + 1); have h2 := h.get (f + 2)
  simp only [mant, Nat.add_zero] at *; omega
theorem be_cons (x : Int) (l : List Int) : be (x :: l) = x * 256 ^ l.length + be l := by
  rw [show x :: l = [x] ++ l from rfl, be_append]
  simp [be]
theorem be_mono : ∀ {a b : List Int}, a.length = b.length → (∀ j, a.getD j 0 ≤ b.getD j 0) → be a ≤ be b
  | [], [], _, _ => Int.le_refl _
  | x :: a, y :: b, hl, h => by
    have h0 : x ≤ y := by simpa using h 0
    have ht := be_mono (a := a) (b := b) (by simpa using hl) (fun j => by simpa using h (j + 1))
    rw [be_cons, be_cons, show a.length = b.length by simpa using hl]
    have := Int.mul_le_mul_of_nonneg_right h0 (show (0 : Int) ≤ 256 ^ b.length from Int.pow_nonneg (by decide))
    omega
/-- what a number's bits tell is no greater -/
theorem back_le {l b : List Int} (h : Bytes l) (hl : l.length = 32) (ht : target (bitsOf l) = some b) : be b ≤ be l := by
  unfold bitsOf at ht
  have hf := lead_le l
  have hm := mant_range h (lead l)
  have hb : expand (bitsOf' l (lead l)) = some b := by
    unfold target at ht
    split at ht
    · cases ht
    · rename_i n hn
      split at ht
      · cases ht
      · cases ht; exact hn
  unfold expand at hb
  split at hb
  · cases hb
  · split at hb
    · cases hb
    · cases hb
      refine be_mono (by rw [expB_length, hl]) (fun j => ?_)
      by_cases hj : j < 32
      · rw [expB_getD _ _ _ _ hj]
        have hlj := h.get j
        have d0 := h.get (lead l); have d1 := h.get (lead l + 1); have d2 := h.get (lead l + 2)
        have hM : mant l (lead l) 3 = l.getD (lead l) 0 * 65536 + l.getD (lead l + 1) 0 * 256 + l.getD (lead l + 2) 0 := by
          simp only [mant, Nat.add_zero]; omega
        generalize lead l = f at *
        by_cases hbig : 8388608 ≤ mant l f 3
        · have hx : bitsOf' l f = (33 - (f : Int)) * 16777216 + mant l f 3 / 256 := if_pos hbig
          rw [hx]
          generalize mant l f 3 = M at *
          have e1 : (((33 - (f : Int)) * 16777216 + M / 256) / 16777216).toNat = 33 - f := by omega
          have e2 : ((33 - (f : Int)) * 16777216 + M / 256) % 16777216 = M / 256 := by omega
          rw [e1, e2]
          split
          · rename_i hc
            have hk : j + (33 - f) - 32 = 0 ∨ j + (33 - f) - 32 = 1 ∨ j + (33 - f) - 32 = 2 := by omega
            rcases hk with hk | hk | hk <;> rw [hk]
            · simp only [mB, Nat.sub_zero, Int.reducePow]; omega
            · obtain rfl : j = f := by omega
              simp only [mB, Nat.reduceSub, Int.reducePow]; omega
            · obtain rfl : j = f + 1 := by omega
              simp only [mB, Nat.reduceSub, Int.reducePow]; omega
          · omega
        · have hx : bitsOf' l f = (32 - (f : Int)) * 16777216 + mant l f 3 := if_neg hbig
          rw [hx]
          generalize mant l f 3 = M at *
          have e1 : (((32 - (f : Int)) * 16777216 + M) / 16777216).toNat = 32 - f := by omega
          have e2 : ((32 - (f : Int)) * 16777216 + M) % 16777216 = M := by omega
          rw [e1, e2]
          split
          · rename_i hc
            have hk : j + (32 - f) - 32 = 0 ∨ j + (32 - f) - 32 = 1 ∨ j + (32 - f) - 32 = 2 := by omega
            rcases hk with hk | hk | hk <;> rw [hk]
            · obtain rfl : j = f := by omega
              simp only [mB, Nat.reduceSub, Int.reducePow]; omega
            · obtain rfl : j = f + 1 := by omega
              simp only [mB, Nat.reduceSub, Int.reducePow]; omega
            · obtain rfl : j = f + 2 := by omega
              simp only [mB, Nat.reduceSub, Int.reducePow]; omega
          · omega
      · rw [List.getD, List.getD, List.getElem?_eq_none (by rw [expB_length]; omega), List.getElem?_eq_none (by omega)]; simp
/-- the new coins of a height -/
def subsidy (h : Int) : Int := if h < 0 then 0 else 5000000000 / 2 ^ (h / 150).toNat
theorem pow2_gt (k : Nat) (h : 33 ≤ k) : (5000000000 : Int) / 2 ^ k = 0 := by
  apply Int.ediv_eq_zero_of_lt (by decide)
  obtain ⟨j, rfl⟩ : ∃ j, k = 33 + j := ⟨k - 33, by omega⟩
  rw [Int.pow_add]
  have : (1 : Int) ≤ 2 ^ j := by have : (0 : Int) < 2 ^ j := Int.pow_pos (by decide); omega
  have h3 : (2 : Int) ^ 33 * 1 ≤ 2 ^ 33 * 2 ^ j := Int.mul_le_mul_of_nonneg_left this (by decide)
  have h4 : (2 : Int) ^ 33 = 8589934592 := by decide
  omega
theorem subsidy_late (h : Int) (ht : 9600 ≤ h) : subsidy h = 0 := by
  unfold subsidy
  rw [if_neg (by omega), pow2_gt _ (by omega)]
theorem half_pow (k : Nat) : (5000000000 : Int) / 2 ^ k / 2 = 5000000000 / 2 ^ (k + 1) := by
  rw [Int.ediv_ediv_of_nonneg (Int.pow_nonneg (by decide)), Int.pow_succ]
theorem half_pos (k : Nat) : (0 : Int) ≤ 5000000000 / 2 ^ k ∧ (5000000000 : Int) / 2 ^ k ≤ 5000000000 := by
  refine ⟨Int.ediv_nonneg (by decide) (Int.pow_nonneg (by decide)), Int.ediv_le_self _ (by decide)⟩
theorem half_zero {k n : Nat} (hk : k ≤ n) (h0 : (5000000000 : Int) / 2 ^ k = 0) : (5000000000 : Int) / 2 ^ n = 0 := by
  obtain ⟨j, rfl⟩ : ∃ j, n = k + j := ⟨n - k, by omega⟩
  rw [Int.pow_add, ← Int.ediv_ediv_of_nonneg (Int.pow_nonneg (by decide)), h0, Int.zero_ediv]
/-- bit i of a number -/
def bit (a : Int) (i : Nat) : Int := a / 2 ^ i % 2
theorem bit_range (a : Int) (i : Nat) : 0 ≤ bit a i ∧ bit a i ≤ 1 := by unfold bit; omega
theorem shift_split (a : Int) (i : Nat) : a / 2 ^ i = 2 * (a / 2 ^ (i + 1)) + bit a i := by
  rw [Int.pow_succ, ← Int.ediv_ediv_of_nonneg (Int.pow_nonneg (by decide)), bit]; omega
/-- what is left behind the bits from i on -/
def drest (a b : Int) (i : Nat) : Int := a / 2 ^ i % b
def dquo (a b : Int) (i : Nat) : Int := a / 2 ^ i / b
theorem div_step {a b : Int} (hb : 0 < b) (i : Nat) :
    (if b ≤ 2 * drest a b (i + 1) + bit a i then drest a b i = 2 * drest a b (i + 1) + bit a i - b ∧ dquo a b i = 2 * dquo a b (i + 1) + 1
     else drest a b i = 2 * drest a b (i + 1) + bit a i ∧ dquo a b i = 2 * dquo a b (i + 1)) := by
  unfold drest dquo
  have hbt := bit_range a i
  rw [shift_split a i]
  have h1 := Int.emod_add_mul_ediv (a / 2 ^ (i + 1)) b
  have h2 := Int.emod_nonneg (a / 2 ^ (i + 1)) (Int.ne_of_gt hb)
  have h3 := Int.emod_lt_of_pos (a / 2 ^ (i + 1)) hb
  generalize a / 2 ^ (i + 1) = A at *
  generalize bit a i = t at *
  generalize hq : A / b = q at *
  generalize hr : A % b = r at *
  have e : 2 * A + t = (2 * r + t) + b * (2 * q) := by rw [← h1, Int.mul_add, ← Int.mul_assoc, ← Int.mul_assoc, Int.mul_comm b 2]; omega
  split
  · rename_i hc
    have e2 : 2 * A + t = (2 * r + t - b) + b * (2 * q + 1) := by rw [e, Int.mul_add]; omega
    rw [e2, Int.add_mul_emod_self_left, Int.add_mul_ediv_left _ _ (Int.ne_of_gt hb), Int.emod_eq_of_lt (by omega) (by omega), Int.ediv_eq_zero_of_lt (by omega) (by omega)]
    omega
  · rename_i hc
    rw [e, Int.add_mul_emod_self_left, Int.add_mul_ediv_left _ _ (Int.ne_of_gt hb), Int.emod_eq_of_lt (by omega) (by omega), Int.ediv_eq_zero_of_lt (by omega) (by omega)]
    omega
theorem drest_range {a b : Int} (hb : 0 < b) (i : Nat) : 0 ≤ drest a b i ∧ drest a b i < b := ⟨Int.emod_nonneg _ (Int.ne_of_gt hb), Int.emod_lt_of_pos _ hb⟩
theorem drest_top {a b : Int} (h0 : 0 ≤ a) {k : Nat} (h : a < 2 ^ k) : drest a b k = 0 ∧ dquo a b k = 0 := by
  unfold drest dquo; rw [Int.ediv_eq_zero_of_lt h0 h]; simp
theorem drest_zero (a b : Int) : drest a b 0 = a % b ∧ dquo a b 0 = a / b := by simp [drest, dquo]
end Go.Proofs.YthfepfpmkckdnaaDoor
