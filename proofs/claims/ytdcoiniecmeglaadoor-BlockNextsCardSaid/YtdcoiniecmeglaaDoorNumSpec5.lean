/- What Next reckons, in plain Lean: a product word by word, a quotient word by word, and both byte by byte; bits of a number that may be a target. -/
import Derived.Test.YtdcoiniecmeglaaDoorNumWork
import Derived.Test.YtdcoiniecmeglaaDoorNumSpec4
namespace Go.Proofs.YtdcoiniecmeglaaDoor
set_option linter.unusedVariables false
set_option linter.unusedSimpArgs false
open Go Go.RowKit

def clampS (s : Int) : Int := if s < 1200 then 1200 else if 19200 < s then 19200 else s
theorem clampS_range (s : Int) : 1200 ≤ clampS s ∧ clampS s ≤ 19200 := by
  unfold clampS
  split
  · omega
  · split <;> omega
/-- what is carried into word i of a product with a small number -/
def pc (T S : Int) (i : Nat) : Int := T % 18446744073709551616 ^ i * S / 18446744073709551616 ^ i
theorem pc_zero (T S : Int) : pc T S 0 = 0 := by simp [pc, Int.emod_one]
theorem pc_step (T S : Int) (i : Nat) (h : i < 4) :
    (pc T S i + (words T).getD i 0 * S) / 18446744073709551616 = pc T S (i + 1) ∧ (pc T S i + (words T).getD i 0 * S) % 18446744073709551616 = T * S / 18446744073709551616 ^ i % 18446744073709551616 := by
  have hp := B64_pos i
  have key : pc T S i + (words T).getD i 0 * S = T % 18446744073709551616 ^ (i + 1) * S / 18446744073709551616 ^ i := by
    rw [words_getD' _ _ h, emod_pow_succ T _ (by decide), pc, Int.add_mul, Int.mul_assoc, Int.add_mul_ediv_left _ _ (Int.ne_of_gt hp)]
  refine ⟨?_, ?_⟩
  · rw [key, pc, Int.ediv_ediv_of_nonneg (Int.le_of_lt hp), ← Int.pow_succ]
  · rw [key]
    have e1 := Int.emod_add_mul_ediv T (18446744073709551616 ^ (i + 1))
    have e3 : T * S = T % 18446744073709551616 ^ (i + 1) * S + 18446744073709551616 ^ i * (18446744073709551616 * (T / 18446744073709551616 ^ (i + 1) * S)) := by
      rw [← Int.mul_assoc (18446744073709551616 ^ i), ← Int.pow_succ, Nat.succ_eq_add_one, ← Int.mul_assoc, ← Int.add_mul, e1]
    conv => rhs; rw [e3]
    rw [Int.add_mul_ediv_left _ _ (Int.ne_of_gt hp), Int.add_mul_emod_self_left]
theorem pc_range (T : Int) {S : Int} (hS : 0 < S) (i : Nat) : 0 ≤ pc T S i ∧ pc T S i < S := by
  have hp := B64_pos i
  have r1 := Int.emod_nonneg T (Int.ne_of_gt hp)
  have r2 := Int.emod_lt_of_pos T hp
  unfold pc
  refine ⟨Int.ediv_nonneg (Int.mul_nonneg r1 (Int.le_of_lt hS)) (Int.le_of_lt hp), Int.ediv_lt_of_lt_mul hp ?_⟩
  rw [Int.mul_comm S]
  exact Int.mul_lt_mul_of_pos_right r2 hS
theorem pc_four {T : Int} (S : Int) (h0 : 0 ≤ T) (h1 : T < N256) : pc T S 4 = T * S / N256 := by
  unfold pc
  rw [show (18446744073709551616 : Int) ^ 4 = N256 by unfold N256; decide, Int.emod_eq_of_lt h0 h1]
/-- the product's five words behind i words -/
def prodW (T S : Int) (i : Nat) : List Int := (List.range 5).map fun k => if k < i then T * S / 18446744073709551616 ^ k % 18446744073709551616 else if k = i then pc T S i else 0
theorem prodW_length (T S : Int) (i : Nat) : (prodW T S i).length = 5 := by simp [prodW]
theorem prodW_getD (T S : Int) (i k : Nat) (h : k < 5) : (prodW T S i).getD k 0 = if k < i then T * S / 18446744073709551616 ^ k % 18446744073709551616 else if k = i then pc T S i else 0 := by
  simp [prodW, List.getD, h]
theorem prodW_zero (T S : Int) : prodW T S 0 = [0, 0, 0, 0, 0] := by
  simp [prodW, pc_zero, List.range, List.range.loop]
theorem list_extN {a b : List Int} (n : Nat) (ha : a.length = n) (hb : b.length = n) (h : ∀ j, j < n → a.getD j 0 = b.getD j 0) : a = b := by
  apply List.ext_getElem (by omega)
  intro j h1 h2
  have := h j (by omega)
  simpa [List.getD, h1, h2] using this
theorem prodW_set (T : Int) {S : Int} (hS : 0 < S) (i : Nat) (h : i < 4) (a b : Int) (ha : a = (pc T S i + (words T).getD i 0 * S) % 18446744073709551616) (hb : b = (pc T S i + (words T).getD i 0 * S) / 18446744073709551616) :
    ((prodW T S i).set i a).set (i + 1) b = prodW T S (i + 1) := by
  obtain ⟨s1, s2⟩ := pc_step T S i h
  rw [s2] at ha
  rw [s1] at hb
  refine list_extN 5 (by simp [prodW_length]) (prodW_length ..) (fun j hj => ?_)
  rw [getD_set _ _ _ _ (by simp [prodW_length]; exact hj), getD_set _ _ _ _ (by rw [prodW_length]; exact hj), prodW_getD _ _ _ _ hj, prodW_getD _ _ _ _ hj]
  by_cases e1 : i + 1 = j
  · subst e1
    rw [if_pos rfl, if_neg (by omega), if_pos rfl, hb]
  · rw [if_neg e1]
    by_cases e2 : i = j
    · subst e2
      rw [if_pos rfl, if_pos (by omega), ha]
    · rw [if_neg e2]
      by_cases e3 : j < i
      · rw [if_pos e3, if_pos (by omega)]
      · rw [if_neg e3, if_neg (by omega), if_neg (by omega), if_neg (by omega)]
/-- dividing word by word: what is left behind the words from i on -/
def nrest (V : Int) (i : Nat) : Int := V / 18446744073709551616 ^ i % 4800
theorem nrest_range (V : Int) (i : Nat) : 0 ≤ nrest V i ∧ nrest V i < 4800 := by unfold nrest; omega
theorem nrest_step (V : Int) (i : Nat) (h : i < 4) :
    (nrest V (i + 1) * 18446744073709551616 + V / 18446744073709551616 ^ i % 18446744073709551616) / 4800 = (words (V / 4800)).getD i 0 ∧
    (nrest V (i + 1) * 18446744073709551616 + V / 18446744073709551616 ^ i % 18446744073709551616) % 4800 = nrest V i := by
  have hp := B64_pos i
  have e1 : V / 18446744073709551616 ^ (i + 1) = V / 18446744073709551616 ^ i / 18446744073709551616 := by rw [Int.pow_succ, Int.ediv_ediv_of_nonneg (Int.le_of_lt hp)]
  have e2 : (words (V / 4800)).getD i 0 = V / 18446744073709551616 ^ i / 4800 % 18446744073709551616 := by
    rw [words_getD' _ _ h, Int.ediv_ediv_of_nonneg (by decide), Int.ediv_ediv_of_nonneg (Int.le_of_lt hp), Int.mul_comm]
  rw [e2]
  unfold nrest
  rw [e1]
  generalize V / 18446744073709551616 ^ i = A
  omega
/-- the quotient's words laid from the last on -/
def quoW (V : Int) (i : Nat) : List Int := (List.range 4).map fun k => if i ≤ k then (words (V / 4800)).getD k 0 else 0
theorem quoW_length (V : Int) (i : Nat) : (quoW V i).length = 4 := by simp [quoW]
theorem quoW_getD (V : Int) (i k : Nat) (h : k < 4) : (quoW V i).getD k 0 = if i ≤ k then (words (V / 4800)).getD k 0 else 0 := by simp [quoW, List.getD, h]
theorem quoW_four (V : Int) : quoW V 4 = [0, 0, 0, 0] := by simp [quoW, List.range, List.range.loop]
theorem quoW_zero (V : Int) : quoW V 0 = words (V / 4800) := by
  refine list_extN 4 (quoW_length ..) (words_length _) (fun j hj => ?_)
  rw [quoW_getD _ _ _ hj, if_pos (by omega)]
theorem quoW_set (V : Int) (i : Nat) (h : i < 4) : (quoW V (i + 1)).set i ((words (V / 4800)).getD i 0) = quoW V i := by
  refine list_extN 4 (by simp [quoW_length]) (quoW_length ..) (fun j hj => ?_)
  rw [getD_set _ _ _ _ (by rw [quoW_length]; exact hj), quoW_getD _ _ _ hj, quoW_getD _ _ _ hj]
  by_cases e1 : i = j
  · subst e1; rw [if_pos rfl, if_pos (by omega)]
  · rw [if_neg e1]
    by_cases e2 : i + 1 ≤ j
    · rw [if_pos e2, if_pos (by omega)]
    · rw [if_neg e2, if_neg (by omega)]
/-- the number that Next gives the bits of -/
def nextV (x s : Int) : Int := if be limitB < be (tgtRes x) * clampS s / 4800 then be limitB else if be (tgtRes x) * clampS s / 4800 = 0 then 1 else be (tgtRes x) * clampS s / 4800
def nextRes (x s : Int) : Int := if (target x).isSome then bitsOf (toB 32 (nextV x s)) else 545259519
theorem limit_pos : 1 ≤ be limitB := by decide +kernel
theorem nextV_range (x s : Int) : 1 ≤ nextV x s ∧ nextV x s ≤ be limitB := by
  have h1 := limit_pos
  have h2 := clampS_range s
  have h3 : 0 ≤ be (tgtRes x) * clampS s / 4800 := Int.ediv_nonneg (Int.mul_nonneg (be_range (tgtRes_bytes x)).1 (by omega)) (by decide)
  unfold nextV
  split
  · omega
  · split <;> omega
theorem be_zeros : ∀ {l : List Int}, (∀ j, j < l.length → l.getD j 0 = 0) → be l = 0
  | [], _ => rfl
  | x :: l, h => by
    have h0 : x = 0 := by simpa using h 0 (by simp)
    rw [be_cons, h0, be_zeros (l := l) (fun j hj => by simpa using h (j + 1) (by simpa using hj))]
    simp
theorem lead_zero : ∀ {l : List Int} {j : Nat}, j < lead l → l.getD j 0 = 0
  | [], _, h => by simp [lead] at h
  | x :: l, j, h => by
    unfold lead at h
    rw [List.takeWhile_cons] at h
    split at h
    · rename_i hx
      have hx : x = 0 := by simpa using hx
      cases j with
      | zero => simpa using hx
      | succ j => simpa using lead_zero (l := l) (j := j) (by unfold lead; simpa using h)
    · simp at h
theorem lead_stop : ∀ {l : List Int}, lead l < l.length → l.getD (lead l) 0 ≠ 0
  | [], h => by simp [lead] at h
  | x :: l, h => by
    unfold lead at h ⊢
    rw [List.takeWhile_cons] at h ⊢
    split
    · rename_i hx
      rw [if_pos hx] at h
      have := lead_stop (l := l) (by unfold lead; simpa using h)
      unfold lead at this
      simpa using this
    · rename_i hx
      simpa using hx
theorem bitsOf_range {l : List Int} (h : Bytes l) (hl : l.length = 32) : 0 ≤ bitsOf l ∧ bitsOf l < 4294967296 := by
  have hf := lead_le l
  have hm := mant_range h (lead l)
  unfold bitsOf bitsOf'
  generalize lead l = f at *
  generalize mant l f 3 = M at *
  split <;> omega
theorem expBad_small (e : Nat) (m : Int) (he : e ≤ 32) : expBad e m 3 = false := by
  unfold expBad
  rw [List.any_eq_false]
  intro i hi
  simp only [Bool.and_eq_true, decide_eq_true_eq, not_and]
  intro h
  omega
theorem expB_ne (e : Nat) (m : Int) (j : Nat) (hj : j < 32) (h : (expB e m 3).getD j 0 ≠ 0) : ¬ expB e m 3 = List.replicate 32 0 := by
  intro hh
  rw [hh] at h
  apply h
  rw [List.getD, List.getElem?_replicate, if_pos hj]; rfl
theorem expand_bits_le {l b : List Int} (h : Bytes l) (hl : l.length = 32) (hb : expand (bitsOf l) = some b) : be b ≤ be l := by
  unfold bitsOf at hb
  have hf := lead_le l
  have hm := mant_range h (lead l)
  unfold expand at hb
  split at hb
  · cases hb
  · split at hb
    · cases hb
    · cases hb
      refine be_mono (by rw [expB_length, hl]) (fun j => ?_)
      by_cases hj : j < 32
      · rw [expB_getD _ _ _ _ hj]
        have hlj := h.get j
        have d0 := h.get (lead l); have d1 := h.get (lead l + 1); have d2 := h.get (lead l + 2)
        have hM : mant l (lead l) 3 = l.getD (lead l) 0 * 65536 + l.getD (lead l + 1) 0 * 256 + l.getD (lead l + 2) 0 := by
          simp only [mant, Nat.add_zero]; omega
        generalize lead l = f at *
        by_cases hbig : 8388608 ≤ mant l f 3
        · have hx : bitsOf' l f = (33 - (f : Int)) * 16777216 + mant l f 3 / 256 := if_pos hbig
          rw [hx]
          generalize mant l f 3 = M at *
          have e1 : (((33 - (f : Int)) * 16777216 + M / 256) / 16777216).toNat = 33 - f := by omega
          have e2 : ((33 - (f : Int)) * 16777216 + M / 256) % 16777216 = M / 256 := by omega
          rw [e1, e2]
          split
          · rename_i hc
            have hk : j + (33 - f) - 32 = 0 ∨ j + (33 - f) - 32 = 1 ∨ j + (33 - f) - 32 = 2 := by omega
            rcases hk with hk | hk | hk <;> rw [hk]
            · simp only [mB, Nat.sub_zero, Int.reducePow]; omega
            · obtain rfl : j = f := by omega
              simp only [mB, Nat.reduceSub, Int.reducePow]; omega
            · obtain rfl : j = f + 1 := by omega
              simp only [mB, Nat.reduceSub, Int.reducePow]; omega
          · omega
        · have hx : bitsOf' l f = (32 - (f : Int)) * 16777216 + mant l f 3 := if_neg hbig
          rw [hx]
          generalize mant l f 3 = M at *
          have e1 : (((32 - (f : Int)) * 16777216 + M) / 16777216).toNat = 32 - f := by omega
          have e2 : ((32 - (f : Int)) * 16777216 + M) % 16777216 = M := by omega
          rw [e1, e2]
          split
          · rename_i hc
            have hk : j + (32 - f) - 32 = 0 ∨ j + (32 - f) - 32 = 1 ∨ j + (32 - f) - 32 = 2 := by omega
            rcases hk with hk | hk | hk <;> rw [hk]
            · obtain rfl : j = f := by omega
              simp only [mB, Nat.reduceSub, Int.reducePow]; omega
            · obtain rfl : j = f + 1 := by omega
              simp only [mB, Nat.reduceSub, Int.reducePow]; omega
            · obtain rfl : j = f + 2 := by omega
              simp only [mB, Nat.reduceSub, Int.reducePow]; omega
          · omega
      · rw [List.getD, List.getD, List.getElem?_eq_none (by rw [expB_length]; omega), List.getElem?_eq_none (by omega)]; simp
/-- what a number's bits tell is a target, if the number may be one -/
theorem target_bits {l : List Int} (h : Bytes l) (hl : l.length = 32) (h1 : 1 ≤ be l) (h2 : be l ≤ be limitB) : (target (bitsOf l)).isSome = true := by
  have hf : lead l < 32 := by
    have := lead_le l
    by_cases hh : lead l = 32
    · have := be_zeros (l := l) (fun j hj => lead_zero (by omega))
      omega
    · omega
  have hs := lead_stop (l := l) (by omega)
  have hm := mant_range h (lead l)
  have d0 := h.get (lead l); have d1 := h.get (lead l + 1); have d2 := h.get (lead l + 2)
  have hM : mant l (lead l) 3 = l.getD (lead l) 0 * 65536 + l.getD (lead l + 1) 0 * 256 + l.getD (lead l + 2) 0 := by
    simp only [mant, Nat.add_zero]; omega
  have hfirst : lead l = 0 → l.getD 0 0 < 128 := by
    intro _
    cases l with
    | nil => simp at hl
    | cons x l =>
      have hx := be_cons x l
      have hr := (be_range (l := l) (fun y hy => h y (by simp [hy]))).1
      have hll : l.length = 31 := by simpa using hl
      rw [hll] at hx
      have hlim := limit_small
      have : x * 256 ^ 31 < 128 * 256 ^ 31 := by
        have e : (128 : Int) * 256 ^ 31 = 57896044618658097711785492504343953926634992332820282019728792003956564819968 := by decide
        rw [e]; omega
      have : x < 128 := Int.lt_of_mul_lt_mul_right this (by decide)
      simpa using this
  have hexp : ∃ b, expand (bitsOf l) = some b ∧ ¬ b = List.replicate 32 0 := by
    unfold bitsOf
    generalize lead l = f at *
    by_cases hbig : 8388608 ≤ mant l f 3
    · have hf1 : 1 ≤ f := by
        by_cases hz : f = 0
        · subst hz
          have := hfirst rfl
          simp only [Nat.zero_add] at *
          omega
        · omega
      rw [show bitsOf' l f = (33 - (f : Int)) * 16777216 + mant l f 3 / 256 from if_pos hbig]
      generalize mant l f 3 = M at *
      unfold expand
      have e1 : (((33 - (f : Int)) * 16777216 + M / 256) / 16777216).toNat = 33 - f := by omega
      have e2 : ((33 - (f : Int)) * 16777216 + M / 256) % 16777216 = M / 256 := by omega
      rw [e1, e2, if_neg (by omega), expBad_small _ _ (by omega)]
      refine ⟨_, rfl, expB_ne _ _ f hf ?_⟩
      rw [expB_getD _ _ _ _ hf, if_pos (by omega), show f + (33 - f) - 32 = 1 by omega]
      simp only [mB, Nat.reduceSub, Int.reducePow]
      omega
    · rw [show bitsOf' l f = (32 - (f : Int)) * 16777216 + mant l f 3 from if_neg hbig]
      generalize mant l f 3 = M at *
      unfold expand
      have e1 : (((32 - (f : Int)) * 16777216 + M) / 16777216).toNat = 32 - f := by omega
      have e2 : ((32 - (f : Int)) * 16777216 + M) % 16777216 = M := by omega
      rw [e1, e2, if_neg (by omega), expBad_small _ _ (by omega)]
      refine ⟨_, rfl, expB_ne _ _ f hf ?_⟩
      rw [expB_getD _ _ _ _ hf, if_pos (by omega), show f + (32 - f) - 32 = 0 by omega]
      simp only [mB, Nat.sub_zero, Int.reducePow]
      omega
  obtain ⟨b, hb, hn⟩ := hexp
  have hle := expand_bits_le h hl hb
  unfold target
  rw [hb]
  show (if b = List.replicate 32 0 ∨ be limitB < be b then (none : Option (List Int)) else some b).isSome = true
  rw [if_neg (fun hh => hh.elim hn (fun hh => by omega))]
  rfl
/-- a product with a small number byte by byte: what is carried -/
def tc (A n : Int) (k : Nat) : Int := A % 256 ^ k * n / 256 ^ k
theorem tc_zero (A n : Int) : tc A n 0 = 0 := by simp [tc, Int.emod_one]
theorem tc_step (A n : Int) (k : Nat) : (tc A n k + byteK A k * n) / 256 = tc A n (k + 1) ∧ (tc A n k + byteK A k * n) % 256 = A * n / 256 ^ k % 256 := by
  have hp := b_pos k
  have key : tc A n k + byteK A k * n = A % 256 ^ (k + 1) * n / 256 ^ k := by
    rw [byteK, emod_pow_succ A _ (by decide), tc, Int.add_mul, Int.mul_assoc, Int.add_mul_ediv_left _ _ (Int.ne_of_gt hp)]
  refine ⟨?_, ?_⟩
  · rw [key, tc, Int.ediv_ediv_of_nonneg (Int.le_of_lt hp), ← Int.pow_succ]
  · rw [key]
    have e1 := Int.emod_add_mul_ediv A (256 ^ (k + 1))
    have e3 : A * n = A % 256 ^ (k + 1) * n + 256 ^ k * (256 * (A / 256 ^ (k + 1) * n)) := by
      rw [← Int.mul_assoc (256 ^ k), ← Int.pow_succ, Nat.succ_eq_add_one, ← Int.mul_assoc, ← Int.add_mul, e1]
    conv => rhs; rw [e3]
    rw [Int.add_mul_ediv_left _ _ (Int.ne_of_gt hp), Int.add_mul_emod_self_left]
theorem tc_range (A : Int) {n : Int} (hn : 0 < n) (k : Nat) : 0 ≤ tc A n k ∧ tc A n k < n := by
  have hp := b_pos k
  have r1 := Int.emod_nonneg A (Int.ne_of_gt hp)
  have r2 := Int.emod_lt_of_pos A hp
  unfold tc
  refine ⟨Int.ediv_nonneg (Int.mul_nonneg r1 (Int.le_of_lt hn)) (Int.le_of_lt hp), Int.ediv_lt_of_lt_mul hp ?_⟩
  rw [Int.mul_comm n]
  exact Int.mul_lt_mul_of_pos_right r2 hn
theorem byteK_high {A : Int} (h0 : 0 ≤ A) (h1 : A < N256) (k : Nat) (hk : 32 ≤ k) : byteK A k = 0 := by
  unfold byteK
  obtain ⟨j, rfl⟩ : ∃ j, k = 32 + j := ⟨k - 32, by omega⟩
  rw [Int.pow_add, ← Int.ediv_ediv_of_nonneg (Int.pow_nonneg (by decide)), Int.ediv_eq_zero_of_lt h0 (by unfold N256 at h1; exact h1)]
  simp
/-- what is left behind the first i bytes of 36 -/
def srest (V : Int) (i : Nat) : Int := V / 256 ^ (36 - i) % 4800
theorem srest_range (V : Int) (i : Nat) : 0 ≤ srest V i ∧ srest V i < 4800 := by unfold srest; omega
theorem srest_zero {V : Int} (h0 : 0 ≤ V) (h1 : V < 256 ^ 36) : srest V 0 = 0 := by unfold srest; rw [Int.ediv_eq_zero_of_lt h0 h1]; rfl
def sdig (V : Int) (i : Nat) : Int := V / 4800 / 256 ^ (35 - i) % 256
theorem sdig_range (V : Int) (i : Nat) : 0 ≤ sdig V i ∧ sdig V i < 256 := by unfold sdig; omega
theorem srest_step (V : Int) (i : Nat) (h : i < 36) : (srest V i * 256 + V / 256 ^ (35 - i) % 256) / 4800 = sdig V i ∧ (srest V i * 256 + V / 256 ^ (35 - i) % 256) % 4800 = srest V (i + 1) := by
  have e1 : V / 256 ^ (36 - i) = V / 256 ^ (35 - i) / 256 := by rw [b_succ, show 35 - i + 1 = 36 - i by omega]
  have e2 : V / 4800 / 256 ^ (35 - i) = V / 256 ^ (35 - i) / 4800 := by
    rw [Int.ediv_ediv_of_nonneg (by decide), Int.ediv_ediv_of_nonneg (Int.le_of_lt (b_pos _)), Int.mul_comm]
  unfold sdig srest
  rw [e1, e2, show 36 - (i + 1) = 35 - i by omega]
  generalize V / 256 ^ (35 - i) = A
  omega
/-- has it no more than 32 bytes, as far as was seen -/
def fitsB (V : Int) (i : Nat) : Bool := decide (V / 4800 / 256 ^ (36 - min i 4) = 0)
theorem fitsB_zero {V : Int} (h0 : 0 ≤ V) (h1 : V < 256 ^ 36) : fitsB V 0 = true := by
  unfold fitsB
  rw [decide_eq_true]
  rw [Int.ediv_ediv_of_nonneg (by decide)]
  exact Int.ediv_eq_zero_of_lt h0 (by rw [show 36 - min 0 4 = 36 from rfl]; omega)
theorem fitsB_step {V : Int} (h0 : 0 ≤ V) (i : Nat) (h : i < 4) : fitsB V (i + 1) = (fitsB V i && !decide (sdig V i > 0)) := by
  have e1 : V / 4800 / 256 ^ (36 - i) = V / 4800 / 256 ^ (35 - i) / 256 := by rw [b_succ, show 35 - i + 1 = 36 - i by omega]
  have hA : 0 ≤ V / 4800 / 256 ^ (35 - i) := Int.ediv_nonneg (Int.ediv_nonneg h0 (by decide)) (Int.le_of_lt (b_pos _))
  unfold fitsB sdig
  rw [show min i 4 = i by omega, show min (i + 1) 4 = i + 1 by omega, e1, show 36 - (i + 1) = 35 - i by omega]
  generalize V / 4800 / 256 ^ (35 - i) = A at *
  by_cases h1 : A = 0
  · subst h1; rfl
  · rw [decide_eq_false h1]
    by_cases h2 : A / 256 = 0
    · rw [decide_eq_true h2, decide_eq_true (by omega)]; rfl
    · rw [decide_eq_false h2]; rfl
theorem fitsB_late {V : Int} (h0 : 0 ≤ V) (i : Nat) (h : 4 ≤ i) : fitsB V i = decide (V / 4800 < N256) := by
  unfold fitsB
  rw [show 36 - min i 4 = 32 by omega]
  have hA : 0 ≤ V / 4800 := Int.ediv_nonneg h0 (by decide)
  have e : (256 : Int) ^ 32 = N256 := by unfold N256; decide
  rw [e]
  congr 1
  refine propext ⟨fun hh => ?_, fun hh => Int.ediv_eq_zero_of_lt hA hh⟩
  have h1 := Int.lt_mul_ediv_self_add (x := V / 4800) (k := N256) (by unfold N256; decide)
  rw [hh] at h1
  simpa using h1
theorem mixB_up {a b : List Int} {n i : Nat} (h : a.length = n) (h2 : b.length = n) (hi : i < n) : (mixB a b i).set i (a.getD i 0) = mixB a b (i + 1) := by
  unfold mixB
  have e1 : a.take (i + 1) = a.take i ++ [a.getD i 0] := by
    rw [List.take_succ_eq_append_getElem (by omega)]
    simp [List.getD, show i < a.length by omega]
  have e2 : b.drop i = b.getD i 0 :: b.drop (i + 1) := by
    rw [List.drop_eq_getElem_cons (by omega)]
    simp [List.getD, show i < b.length by omega]
  rw [e1, e2, List.set_append_right _ _ (by simp; omega)]
  simp [show min i a.length = i by omega]
end Go.Proofs.YtdcoiniecmeglaaDoor
