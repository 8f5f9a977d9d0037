/- Division bit by bit, in words: plain Lean. -/
import Derived.Test.YtdcoiniecmeglaaDoorNumN
import Derived.Test.YtdcoiniecmeglaaDoorNumSpec2
namespace Go.Proofs.YtdcoiniecmeglaaDoor
set_option linter.unusedVariables false
set_option linter.unusedSimpArgs false
open Go Go.RowKit

theorem two_pos (k : Nat) : (0 : Int) < 2 ^ k := Int.pow_pos (by decide)
theorem mod_div {A : Int} {s n : Nat} (h : s ≤ n) : A % 2 ^ n / 2 ^ s = A / 2 ^ s % 2 ^ (n - s) := by
  obtain ⟨d, rfl⟩ : ∃ d, n = s + d := ⟨n - s, by omega⟩
  rw [Nat.add_sub_cancel_left]
  have h1 := Int.emod_add_mul_ediv A (2 ^ (s + d))
  have h2 : A / 2 ^ s / 2 ^ d = A / 2 ^ (s + d) := by rw [Int.ediv_ediv_of_nonneg (Int.pow_nonneg (by decide)), Int.pow_add]
  have h3 := Int.emod_add_mul_ediv (A / 2 ^ s) (2 ^ d)
  have h4 : A / 2 ^ s = A % 2 ^ (s + d) / 2 ^ s + 2 ^ d * (A / 2 ^ (s + d)) := by
    conv => lhs; rw [← h1]
    rw [Int.pow_add, Int.mul_assoc, Int.add_mul_ediv_left _ _ (Int.ne_of_gt (two_pos s))]
  rw [h2] at h3
  omega
theorem w64 (j : Nat) : (18446744073709551616 : Int) ^ j = 2 ^ (64 * j) := by rw [Int.pow_mul]; rfl
theorem words_getD2 (v : Int) (i : Nat) (h : i < 4) : (words v).getD i 0 = v / 2 ^ (64 * i) % 2 ^ 64 := by
  rw [words_getD' v i h, w64]; rfl
/-- a bit of a number is one of its word's -/
theorem word_bit (a : Int) (i : Nat) (h : i < 256) : (words a).getD (i / 64) 0 / 2 ^ (i % 64) % 2 = bit a i := by
  rw [words_getD2 _ _ (by omega), mod_div (by omega), bit]
  have e : a / 2 ^ (64 * (i / 64)) / 2 ^ (i % 64) = a / 2 ^ i := by
    rw [Int.ediv_ediv_of_nonneg (Int.pow_nonneg (by decide)), ← Int.pow_add, Nat.div_add_mod]
  rw [e]
  obtain ⟨d, hd⟩ : ∃ d, 64 - i % 64 = 1 + d := ⟨63 - i % 64, by omega⟩
  rw [hd, Int.pow_add, Int.pow_one]
  generalize (2 : Int) ^ d = D
  rw [Int.emod_emod_of_dvd _ (Int.dvd_mul_right 2 D)]
/-- one more bit from behind -/
theorem words_shift (R t : Int) (ht : 0 ≤ t ∧ t ≤ 1) (k : Nat) (hk : k < 3) : (words (2 * R + t)).getD (k + 1) 0 = (words R).getD (k + 1) 0 * 2 % 2 ^ 64 + (words R).getD k 0 / 2 ^ 63 := by
  rw [words_getD2 _ _ (by omega), words_getD2 _ _ (by omega), words_getD2 _ _ (by omega)]
  have e1 : R / 2 ^ (64 * (k + 1)) = R / 2 ^ (64 * k) / 2 ^ 64 := by
    rw [Int.ediv_ediv_of_nonneg (Int.pow_nonneg (by decide)), ← Int.pow_add]; rfl
  have e2 : (2 * R + t) / 2 ^ (64 * (k + 1)) = (2 * (R / 2 ^ (64 * k)) + ((2 * R + t) / 2 ^ (64 * k) - 2 * (R / 2 ^ (64 * k)))) / 2 ^ 64 := by
    have : 2 * (R / 2 ^ (64 * k)) + ((2 * R + t) / 2 ^ (64 * k) - 2 * (R / 2 ^ (64 * k))) = (2 * R + t) / 2 ^ (64 * k) := by omega
    rw [this, Int.ediv_ediv_of_nonneg (Int.pow_nonneg (by decide)), ← Int.pow_add]; rfl
  have h3 : 0 ≤ (2 * R + t) / 2 ^ (64 * k) - 2 * (R / 2 ^ (64 * k)) ∧ (2 * R + t) / 2 ^ (64 * k) - 2 * (R / 2 ^ (64 * k)) ≤ 1 := by
    have hp := two_pos (64 * k)
    have a1 := Int.emod_add_mul_ediv R (2 ^ (64 * k))
    have a2 := Int.emod_nonneg R (Int.ne_of_gt hp)
    have a3 := Int.emod_lt_of_pos R hp
    generalize (2 : Int) ^ (64 * k) = P at *
    have e3 : 2 * R + t = 2 * (R % P) + t + P * (2 * (R / P)) := by
      conv => lhs; rw [← a1]
      rw [Int.mul_add, ← Int.mul_assoc, Int.mul_comm 2 P, Int.mul_assoc]; omega
    rw [e3, Int.add_mul_ediv_left _ _ (Int.ne_of_gt hp)]
    have h4 : 0 ≤ (2 * (R % P) + t) / P := Int.ediv_nonneg (by omega) (Int.le_of_lt hp)
    have h5 : (2 * (R % P) + t) / P < 2 := Int.ediv_lt_of_lt_mul hp (by omega)
    omega
  rw [e1, e2]
  generalize (2 * R + t) / 2 ^ (64 * k) - 2 * (R / 2 ^ (64 * k)) = u at *
  generalize R / 2 ^ (64 * k) = A at *
  omega
theorem words_low (R t : Int) (ht : 0 ≤ t ∧ t ≤ 1) : (words (2 * R + t)).getD 0 0 = (words R).getD 0 0 * 2 % 2 ^ 64 + t := by
  rw [words_getD2 _ _ (by omega), words_getD2 _ _ (by omega)]
  simp only [Nat.mul_zero, Int.pow_zero, Int.ediv_one]
  omega
/-- a bit put in -/
theorem words_bit (W : Int) (i : Nat) (h : i < 256) (hW : W % 2 ^ (i + 1) = 0) : (words W).set (i / 64) ((words W).getD (i / 64) 0 + 2 ^ (i % 64)) = words (W + 2 ^ i) ∧ (words W).getD (i / 64) 0 % 2 ^ (i % 64 + 1) = 0 := by
  have hj : i / 64 < 4 := by omega
  have hi : 64 * (i / 64) + i % 64 = i := Nat.div_add_mod i 64
  have hs : i % 64 < 64 := Nat.mod_lt _ (by decide)
  generalize i / 64 = j at *
  generalize i % 64 = s at *
  subst hi
  have hpj := two_pos (64 * j)
  have hps := two_pos (s + 1)
  obtain ⟨q, hq⟩ : ∃ q, W = 2 ^ (64 * j + s + 1) * q := ⟨W / 2 ^ (64 * j + s + 1), by have := Int.emod_add_mul_ediv W (2 ^ (64 * j + s + 1)); omega⟩
  have e0 : W = 2 ^ (64 * j) * (2 ^ (s + 1) * q) := by rw [hq, Nat.add_assoc, Int.pow_add, Int.mul_assoc]
  have e1 : W + 2 ^ (64 * j + s) = 2 ^ (64 * j) * (2 ^ (s + 1) * q + 2 ^ s) := by rw [e0, Int.pow_add 2 (64 * j) s, Int.mul_add]
  have hpow : (2 : Int) ^ 64 = 2 ^ (s + 1) * 2 ^ (63 - s) := by rw [← Int.pow_add]; congr 1; omega
  have hs2 : (2 : Int) ^ (s + 1) = 2 * 2 ^ s := by rw [Int.pow_succ, Int.mul_comm]
  -- the word itself
  have d0 : W / 2 ^ (64 * j) = 2 ^ (s + 1) * q := by rw [e0, Int.mul_ediv_cancel_left _ (Int.ne_of_gt hpj)]
  have d1 : (W + 2 ^ (64 * j + s)) / 2 ^ (64 * j) = 2 ^ (s + 1) * q + 2 ^ s := by rw [e1, Int.mul_ediv_cancel_left _ (Int.ne_of_gt hpj)]
  have m0 : 2 ^ (s + 1) * q % 2 ^ 64 = 2 ^ (s + 1) * (q % 2 ^ (63 - s)) := by rw [hpow, Int.mul_emod_mul_of_pos _ _ hps]
  have hq1 := Int.emod_nonneg q (Int.ne_of_gt (two_pos (63 - s)))
  have hq2 := Int.emod_lt_of_pos q (two_pos (63 - s))
  have m1 : (2 ^ (s + 1) * q + 2 ^ s) % 2 ^ 64 = 2 ^ (s + 1) * (q % 2 ^ (63 - s)) + 2 ^ s := by
    have hsp := two_pos s
    have a1 := Int.emod_add_mul_ediv q (2 ^ (63 - s))
    have e : 2 ^ (s + 1) * q + 2 ^ s = 2 ^ (s + 1) * (q % 2 ^ (63 - s)) + 2 ^ s + 2 ^ 64 * (q / 2 ^ (63 - s)) := by
      conv => lhs; rw [← a1]
      rw [Int.mul_add, hpow, Int.mul_assoc]; omega
    have hb : 2 ^ (s + 1) * (q % 2 ^ (63 - s)) + 2 ^ (s + 1) ≤ 2 ^ 64 := by
      have := Int.mul_le_mul_of_nonneg_left (show q % 2 ^ (63 - s) + 1 ≤ 2 ^ (63 - s) by omega) (Int.le_of_lt hps)
      rw [Int.mul_add, Int.mul_one, ← hpow] at this
      exact this
    have hn : 0 ≤ 2 ^ (s + 1) * (q % 2 ^ (63 - s)) := Int.mul_nonneg (Int.le_of_lt hps) hq1
    rw [e, Int.add_mul_emod_self_left, Int.emod_eq_of_lt (by omega) (by omega)]
  have w0 : (words W).getD j 0 = 2 ^ (s + 1) * (q % 2 ^ (63 - s)) := by rw [words_getD2 _ _ hj, d0, m0]
  have w1 : (words (W + 2 ^ (64 * j + s))).getD j 0 = 2 ^ (s + 1) * (q % 2 ^ (63 - s)) + 2 ^ s := by rw [words_getD2 _ _ hj, d1, m1]
  refine ⟨?_, by rw [w0]; exact Int.mul_emod_right _ _⟩
  apply List.ext_getElem?
  intro k
  by_cases hk : k < 4
  · have hg : ∀ (l : List Int), l.length = 4 → l[k]? = some (l.getD k 0) := fun l hl => by simp [List.getD, hl, hk]
    rw [hg _ (by simp [words_length]), hg _ (words_length _), getD_set _ _ _ _ (by rw [words_length]; exact hk)]
    congr 1
    by_cases e : j = k
    · subst e; rw [if_pos rfl, w1, w0]
    · rw [if_neg e, words_getD2 _ _ hk, words_getD2 _ _ hk]
      by_cases hlt : k < j
      · have ek : (64 * j) = 64 * k + (64 + 64 * (j - k - 1)) := by omega
        have f : ∀ z : Int, 2 ^ (64 * j) * z / 2 ^ (64 * k) % 2 ^ 64 = 0 := fun z => by
          rw [ek, Int.pow_add, Int.mul_assoc, Int.mul_ediv_cancel_left _ (Int.ne_of_gt (two_pos _)), Int.pow_add, Int.mul_assoc, Int.mul_emod_right]
        rw [e1, e0, f, f]
      · have ek : (64 * k) = (64 * j + (s + 1)) + (63 - s + 64 * (k - j - 1)) := by omega
        have f : (W + 2 ^ (64 * j + s)) / 2 ^ (64 * j + (s + 1)) = W / 2 ^ (64 * j + (s + 1)) := by
          rw [Int.pow_add 2 (64 * j) (s + 1), ← Int.ediv_ediv_of_nonneg (Int.le_of_lt hpj), ← Int.ediv_ediv_of_nonneg (Int.le_of_lt hpj), d1, d0, Int.mul_ediv_cancel_left _ (Int.ne_of_gt hps), Int.add_comm, Int.add_mul_ediv_left _ _ (Int.ne_of_gt hps), Int.ediv_eq_zero_of_lt (Int.le_of_lt (two_pos s)) (by have := two_pos s; omega), Int.zero_add]
        rw [ek, Int.pow_add, ← Int.ediv_ediv_of_nonneg (Int.pow_nonneg (by decide)), ← Int.ediv_ediv_of_nonneg (Int.pow_nonneg (by decide)), f]
  · rw [List.getElem?_eq_none (by simp [words_length]; omega), List.getElem?_eq_none (by rw [words_length]; omega)]
def N256 : Int := 115792089237316195423570985008687907853269984665640564039457584007913129639936
/-- the bit that goes beyond -/
def dover (a b : Int) (n : Nat) : Int := (words (drest a b n)).getD 3 0 / 2 ^ 63
/-- what is left, and a bit -/
def dnext (a b : Int) (i : Nat) : Int := 2 * drest a b (i + 1) + bit a i
theorem dover_eq {a b : Int} (hb : 0 < b) (hb2 : b < N256) (n : Nat) : dover a b n = drest a b n / 57896044618658097711785492504343953926634992332820282019728792003956564819968 ∧ 0 ≤ dover a b n ∧ dover a b n ≤ 1 := by
  obtain ⟨r0, r1⟩ := drest_range (a := a) hb n
  have e : dover a b n = drest a b n / 57896044618658097711785492504343953926634992332820282019728792003956564819968 := by
    unfold dover
    rw [words_getD2 _ _ (by omega), mod_div (by omega), Int.ediv_ediv_of_nonneg (Int.pow_nonneg (by decide)), ← Int.pow_add]
    unfold N256 at hb2
    generalize drest a b n = R at *
    show R / 57896044618658097711785492504343953926634992332820282019728792003956564819968 % 2 = _
    omega
  refine ⟨e, ?_⟩
  unfold N256 at hb2
  omega
theorem dless {a b : Int} (hb : 0 < b) (hb2 : b < N256) (i : Nat) : (dover a b (i + 1) = 1 ∨ wborrow (dnext a b i) b 4 = 0) ↔ b ≤ dnext a b i := by
  obtain ⟨h1, h2, h3⟩ := dover_eq (a := a) hb hb2 (i + 1)
  have hw : wborrow (dnext a b i) b 4 = -((dnext a b i % N256 - b % N256) / N256) := rfl
  obtain ⟨r0, r1⟩ := drest_range (a := a) hb (i + 1)
  have hbt := bit_range a i
  rw [hw, h1]
  unfold dnext N256 at *
  generalize drest a b (i + 1) = R at *
  generalize bit a i = t at *
  omega
theorem dstep_yes {a b : Int} (hb : 0 < b) (i : Nat) (h : b ≤ dnext a b i) : dnext a b i - b = drest a b i ∧ dquo a b (i + 1) * 2 ^ (i + 1) + 2 ^ i = dquo a b i * 2 ^ i := by
  have hs := div_step (a := a) hb i
  rw [if_pos (show b ≤ 2 * drest a b (i + 1) + bit a i from h)] at hs
  refine ⟨hs.1.symm, ?_⟩
  rw [hs.2, Int.add_mul, Int.one_mul, Int.pow_succ, Int.mul_comm (2 ^ i) 2, ← Int.mul_assoc, Int.mul_comm (dquo a b (i + 1)) 2]
theorem dstep_no {a b : Int} (hb : 0 < b) (i : Nat) (h : ¬ b ≤ dnext a b i) : dnext a b i = drest a b i ∧ dquo a b (i + 1) * 2 ^ (i + 1) = dquo a b i * 2 ^ i := by
  have hs := div_step (a := a) hb i
  rw [if_neg (show ¬ b ≤ 2 * drest a b (i + 1) + bit a i from h)] at hs
  refine ⟨hs.1.symm, ?_⟩
  rw [hs.2, Int.pow_succ, Int.mul_comm (2 ^ i) 2, ← Int.mul_assoc, Int.mul_comm (dquo a b (i + 1)) 2]
/-- the whole so far -/
def dwhole (a b : Int) (n : Nat) : Int := dquo a b n * 2 ^ n
theorem dwhole_bit (a b : Int) (i : Nat) (h : i < 256) : (words (dwhole a b (i + 1))).set (i / 64) ((words (dwhole a b (i + 1))).getD (i / 64) 0 + 2 ^ (i % 64)) = words (dwhole a b (i + 1) + 2 ^ i) ∧ (words (dwhole a b (i + 1))).getD (i / 64) 0 % 2 ^ (i % 64 + 1) = 0 :=
  words_bit _ _ h (Int.mul_emod_left _ _)
theorem dtop {a : Int} (b : Int) (h0 : 0 ≤ a) (h1 : a < N256) : drest a b 256 = 0 ∧ dwhole a b 256 = 0 := by
  have h := drest_top (b := b) h0 (k := 256) (show a < 2 ^ 256 from h1)
  exact ⟨h.1, by unfold dwhole; rw [h.2, Int.zero_mul]⟩
theorem dend (a b : Int) : dwhole a b 0 = a / b := by unfold dwhole; rw [(drest_zero a b).2]; simp
/-- the lowest k words are still the old ones -/
def mixW' (r u : Int) (k : Nat) : List Int := (words r).take k ++ (words u).drop k
theorem mixW'_length (r u : Int) (k : Nat) (h : k ≤ 4) : (mixW' r u k).length = 4 := by simp [mixW', words_length]; omega
theorem mixW'_full (r u : Int) : mixW' r u 4 = words r := rfl
theorem mixW'_zero (r u : Int) : mixW' r u 0 = words u := rfl
theorem mixW'_getD (r u : Int) (k j : Nat) (h : j < k) (hk : k ≤ 4) : (mixW' r u k).getD j 0 = (words r).getD j 0 := by
  have h1 : k = 1 ∨ k = 2 ∨ k = 3 ∨ k = 4 := by omega
  have h2 : j = 0 ∨ j = 1 ∨ j = 2 ∨ j = 3 := by omega
  rcases h1 with rfl | rfl | rfl | rfl <;> rcases h2 with rfl | rfl | rfl | rfl <;> first | rfl | omega
theorem mixW_set' (r u : Int) (k : Nat) (h : k < 4) : (mixW' r u (k + 1)).set k ((words u).getD k 0) = mixW' r u k := by
  have : k = 0 ∨ k = 1 ∨ k = 2 ∨ k = 3 := by omega
  rcases this with rfl | rfl | rfl | rfl <;> rfl
end Go.Proofs.YtdcoiniecmeglaaDoor
