/- The walk of AmountBack: it returns true and leaves all that was there. -/
import Derived.Test.YtgdbaejcbfofoaaDoorAmtAwake
namespace Go.Proofs.YtgdbaejcbfofoaaDoor
open Go Go.RowKit

theorem vE_zero {v : Int} (h : vE v = 0) : validB v = true := by
  unfold vE at h; split at h
  · assumption
  · omega
theorem feeE_zero {rate size : Int} (h : feeE rate size = 0) : sizedB size 0 = true ∧ validB rate = true ∧ validB (feeN rate size) = true ∧ feeV rate size = feeN rate size := by
  unfold feeE at h
  split at h
  · rename_i h1
    split at h
    · rename_i h2
      have := vE_zero h
      exact ⟨h1, h2, this, by simp [feeV, h1, h2, vV, this]⟩
    · omega
  · omega
theorem rateE_zero {fee size : Int} (h : rateE fee size = 0) : sizedB size 1 = true ∧ validB fee = true ∧ validB (rateN fee size) = true ∧ rateV fee size = rateN fee size := by
  unfold rateE at h
  split at h
  · rename_i h1
    split at h
    · rename_i h2
      have := vE_zero h
      exact ⟨h1, h2, this, by simp [rateV, h1, h2, vV, this]⟩
    · omega
  · omega
theorem feeE_mk {rate size : Int} (h1 : sizedB size 0 = true) (h2 : validB rate = true) (h3 : validB (feeN rate size) = true) : feeE rate size = 0 ∧ feeV rate size = feeN rate size := by
  simp [feeE, feeV, h1, h2, vE, vV, h3]
theorem sizedB_mk {s l : Int} (h1 : l ≤ s) (h2 : s ≤ 1000000) : sizedB s l = true := by unfold sizedB; simp; omega
/-- a rate's fee: the least number of thousands -/
theorem feeN_spec (rate size : Int) : rate * size ≤ 1000 * feeN rate size ∧ 1000 * feeN rate size < rate * size + 1000 := by
  unfold feeN; split <;> omega
theorem rateN_spec {fee size : Int} (h : 1 ≤ size) : rateN fee size * size ≤ fee * 1000 ∧ fee * 1000 < (rateN fee size + 1) * size := by
  unfold rateN
  have h1 := Int.mul_ediv_add_emod (fee * 1000) size
  have h2 := Int.emod_nonneg (fee * 1000) (show size ≠ 0 by omega)
  have h3 := Int.emod_lt_of_pos (fee * 1000) (show 0 < size by omega)
  rw [Int.add_mul, Int.one_mul, Int.mul_comm _ size]
  omega

theorem back_1 {rate size : Int} (h : feeE rate size = 0) (hs : 0 < size) (hg : rateE (feeV rate size) size = 0) : rate ≤ rateV (feeV rate size) size := by
  obtain ⟨h1, h2, h3, h4⟩ := feeE_zero h
  obtain ⟨_, _, _, h5⟩ := rateE_zero hg
  rw [h5, h4]
  have a := (feeN_spec rate size).1
  have b := (rateN_spec (fee := feeN rate size) (size := size) (by omega)).2
  have c : rate * size < (rateN (feeN rate size) size + 1) * size := by omega
  have := Int.lt_of_mul_lt_mul_right c (by omega)
  omega
theorem back_2 {rate size : Int} (h : feeE rate size = 0) (hs : 0 < size) : feeE rate (size - 1) = 0 ∧ feeV rate (size - 1) ≤ feeV rate size := by
  obtain ⟨h1, h2, h3, h4⟩ := feeE_zero h
  have s := sizedB_true h1
  have v := validB_of h2
  have n := validB_of h3
  have a := feeN_spec rate size
  have b := feeN_spec rate (size - 1)
  have e : rate * (size - 1) = rate * size - rate := by rw [Int.mul_sub, Int.mul_one]
  have p : 0 ≤ rate * (size - 1) := Int.mul_nonneg v.1 (by omega)
  have hle : feeN rate (size - 1) ≤ feeN rate size := by omega
  have := feeE_mk (sizedB_mk (s := size - 1) (l := 0) (by omega) (by omega)) h2 (validB_true (v := feeN rate (size - 1)) (by omega) (by omega))
  rw [h4, this.2]
  exact ⟨this.1, hle⟩
theorem back_3 {fee size : Int} (h : rateE fee size = 0) : feeE (rateV fee size) size = 0 ∧ feeV (rateV fee size) size ≤ fee ∧ 0 ≤ rateV fee size ∧ rateV fee size ≤ 2100000000000000 := by
  obtain ⟨h1, h2, h3, h4⟩ := rateE_zero h
  have s := sizedB_true h1
  have v := validB_of h2
  have n := validB_of h3
  have a := rateN_spec (fee := fee) (size := size) (by omega)
  have b := feeN_spec (rateN fee size) size
  have p : 0 ≤ rateN fee size * size := Int.mul_nonneg n.1 (by omega)
  have := feeE_mk (sizedB_mk (s := size) (l := 0) (by omega) (by omega)) h3 (validB_true (v := feeN (rateN fee size) size) (by omega) (by omega))
  rw [h4, this.2]
  exact ⟨this.1, by omega, n.1, n.2⟩
theorem back_4 {fee size : Int} (h : rateE fee size = 0) (hh : feeE (rateV fee size + 1) size = 0) : fee < feeV (rateV fee size + 1) size := by
  obtain ⟨h1, h2, h3, h4⟩ := rateE_zero h
  have s := sizedB_true h1
  obtain ⟨k1, k2, k3, k4⟩ := feeE_zero hh
  rw [k4]
  have a := (rateN_spec (fee := fee) (size := size) (by omega)).2
  have b := (feeN_spec (rateV fee size + 1) size).1
  rw [h4] at b ⊢
  omega

theorem bne_true_of {a b : Int} (h : a ≠ b) : (a == b) = false ∧ (a != b) = true := by simp [h]
theorem bne_false_of {a b : Int} (h : a = b) : (a == b) = true ∧ (a != b) = false := by simp [h]

theorem back_e (rate fee size : Int) (h1 : ¬ feeE rate size = 0) (w : World) (h : PowTab w) :
    Calls Tryd.prog 5 #[.int .i64 rate, .int .i64 fee, .int .i64 size] w fun e w' => e = .returned (.bool true) ∧ Keeps w w' := by
  obtain ⟨a1, a2⟩ := bne_true_of h1
  clear h1
  by_cases hB : rateE fee size = 0
  · obtain ⟨b1, b2, b3, b4⟩ := back_3 hB
    obtain ⟨b5, b6⟩ := bne_false_of hB
    obtain ⟨b7, b8⟩ := bne_false_of b1
    by_cases hC : feeE (rateV fee size + 1) size = 0
    · have c1 := back_4 hB hC
      obtain ⟨c2, c3⟩ := bne_false_of hC
      clear hB hC b1
      go_enter Tryd.func5, Tryd.ntmps5
      go_wp2_with (first | (go_at_call 7; refine (awake_any _ h).mono ?_; rintro e w1 ⟨rfl, hk⟩) | (go_at_call 11; refine (fee_any _ _ _).mono ?_; rintro e w' ⟨rfl, n, rfl⟩) | (go_at_call 13; refine (rate_any _ _ _).mono ?_; rintro e w' ⟨rfl, n, rfl⟩))
      go_ret
      exact ⟨rfl, hk.trans (Qt.keeps ⟨_, rfl⟩)⟩
    · obtain ⟨c2, c3⟩ := bne_true_of hC
      clear hB hC b1
      go_enter Tryd.func5, Tryd.ntmps5
      go_wp2_with (first | (go_at_call 7; refine (awake_any _ h).mono ?_; rintro e w1 ⟨rfl, hk⟩) | (go_at_call 11; refine (fee_any _ _ _).mono ?_; rintro e w' ⟨rfl, n, rfl⟩) | (go_at_call 13; refine (rate_any _ _ _).mono ?_; rintro e w' ⟨rfl, n, rfl⟩))
      go_ret
      exact ⟨rfl, hk.trans (Qt.keeps ⟨_, rfl⟩)⟩
  · obtain ⟨b5, b6⟩ := bne_true_of hB
    clear hB
    go_enter Tryd.func5, Tryd.ntmps5
    go_wp2_with (first | (go_at_call 7; refine (awake_any _ h).mono ?_; rintro e w1 ⟨rfl, hk⟩) | (go_at_call 11; refine (fee_any _ _ _).mono ?_; rintro e w' ⟨rfl, n, rfl⟩) | (go_at_call 13; refine (rate_any _ _ _).mono ?_; rintro e w' ⟨rfl, n, rfl⟩))
    go_ret
    exact ⟨rfl, hk.trans (Qt.keeps ⟨_, rfl⟩)⟩
theorem back_s (rate fee size : Int) (h1 : feeE rate size = 0) (h2 : size ≤ 0) (w : World) (h : PowTab w) :
    Calls Tryd.prog 5 #[.int .i64 rate, .int .i64 fee, .int .i64 size] w fun e w' => e = .returned (.bool true) ∧ Keeps w w' := by
  obtain ⟨a1, a2⟩ := bne_false_of h1
  clear h1
  by_cases hB : rateE fee size = 0
  · obtain ⟨b1, b2, b3, b4⟩ := back_3 hB
    obtain ⟨b5, b6⟩ := bne_false_of hB
    obtain ⟨b7, b8⟩ := bne_false_of b1
    by_cases hC : feeE (rateV fee size + 1) size = 0
    · have c1 := back_4 hB hC
      obtain ⟨c2, c3⟩ := bne_false_of hC
      clear hB hC b1
      go_enter Tryd.func5, Tryd.ntmps5
      go_wp2_with (first | (go_at_call 7; refine (awake_any _ h).mono ?_; rintro e w1 ⟨rfl, hk⟩) | (go_at_call 11; refine (fee_any _ _ _).mono ?_; rintro e w' ⟨rfl, n, rfl⟩) | (go_at_call 13; refine (rate_any _ _ _).mono ?_; rintro e w' ⟨rfl, n, rfl⟩))
      go_ret
      exact ⟨rfl, hk.trans (Qt.keeps ⟨_, rfl⟩)⟩
    · obtain ⟨c2, c3⟩ := bne_true_of hC
      clear hB hC b1
      go_enter Tryd.func5, Tryd.ntmps5
      go_wp2_with (first | (go_at_call 7; refine (awake_any _ h).mono ?_; rintro e w1 ⟨rfl, hk⟩) | (go_at_call 11; refine (fee_any _ _ _).mono ?_; rintro e w' ⟨rfl, n, rfl⟩) | (go_at_call 13; refine (rate_any _ _ _).mono ?_; rintro e w' ⟨rfl, n, rfl⟩))
      go_ret
      exact ⟨rfl, hk.trans (Qt.keeps ⟨_, rfl⟩)⟩
  · obtain ⟨b5, b6⟩ := bne_true_of hB
    clear hB
    go_enter Tryd.func5, Tryd.ntmps5
    go_wp2_with (first | (go_at_call 7; refine (awake_any _ h).mono ?_; rintro e w1 ⟨rfl, hk⟩) | (go_at_call 11; refine (fee_any _ _ _).mono ?_; rintro e w' ⟨rfl, n, rfl⟩) | (go_at_call 13; refine (rate_any _ _ _).mono ?_; rintro e w' ⟨rfl, n, rfl⟩))
    go_ret
    exact ⟨rfl, hk.trans (Qt.keeps ⟨_, rfl⟩)⟩
theorem back_g (rate fee size : Int) (h1 : feeE rate size = 0) (h2 : 0 < size) (h3 : rateE (feeV rate size) size = 0) (w : World) (h : PowTab w) :
    Calls Tryd.prog 5 #[.int .i64 rate, .int .i64 fee, .int .i64 size] w fun e w' => e = .returned (.bool true) ∧ Keeps w w' := by
  have a3 := back_1 h1 h2 h3
  obtain ⟨a4, a5⟩ := back_2 h1 h2
  obtain ⟨a1, a2⟩ := bne_false_of h1
  obtain ⟨a6, a7⟩ := bne_false_of h3
  obtain ⟨a8, a9⟩ := bne_false_of a4
  have hsz := (sizedB_true (feeE_zero h1).1).2
  clear h1 h3 a4
  by_cases hB : rateE fee size = 0
  · obtain ⟨b1, b2, b3, b4⟩ := back_3 hB
    obtain ⟨b5, b6⟩ := bne_false_of hB
    obtain ⟨b7, b8⟩ := bne_false_of b1
    by_cases hC : feeE (rateV fee size + 1) size = 0
    · have c1 := back_4 hB hC
      obtain ⟨c2, c3⟩ := bne_false_of hC
      clear hB hC b1
      go_enter Tryd.func5, Tryd.ntmps5
      go_wp2_with (first | (go_at_call 7; refine (awake_any _ h).mono ?_; rintro e w1 ⟨rfl, hk⟩) | (go_at_call 11; refine (fee_any _ _ _).mono ?_; rintro e w' ⟨rfl, n, rfl⟩) | (go_at_call 13; refine (rate_any _ _ _).mono ?_; rintro e w' ⟨rfl, n, rfl⟩))
      go_ret
      exact ⟨rfl, hk.trans (Qt.keeps ⟨_, rfl⟩)⟩
    · obtain ⟨c2, c3⟩ := bne_true_of hC
      clear hB hC b1
      go_enter Tryd.func5, Tryd.ntmps5
      go_wp2_with (first | (go_at_call 7; refine (awake_any _ h).mono ?_; rintro e w1 ⟨rfl, hk⟩) | (go_at_call 11; refine (fee_any _ _ _).mono ?_; rintro e w' ⟨rfl, n, rfl⟩) | (go_at_call 13; refine (rate_any _ _ _).mono ?_; rintro e w' ⟨rfl, n, rfl⟩))
      go_ret
      exact ⟨rfl, hk.trans (Qt.keeps ⟨_, rfl⟩)⟩
  · obtain ⟨b5, b6⟩ := bne_true_of hB
    clear hB
    go_enter Tryd.func5, Tryd.ntmps5
    go_wp2_with (first | (go_at_call 7; refine (awake_any _ h).mono ?_; rintro e w1 ⟨rfl, hk⟩) | (go_at_call 11; refine (fee_any _ _ _).mono ?_; rintro e w' ⟨rfl, n, rfl⟩) | (go_at_call 13; refine (rate_any _ _ _).mono ?_; rintro e w' ⟨rfl, n, rfl⟩))
    go_ret
    exact ⟨rfl, hk.trans (Qt.keeps ⟨_, rfl⟩)⟩
theorem back_n (rate fee size : Int) (h1 : feeE rate size = 0) (h2 : 0 < size) (h3 : ¬ rateE (feeV rate size) size = 0) (w : World) (h : PowTab w) :
    Calls Tryd.prog 5 #[.int .i64 rate, .int .i64 fee, .int .i64 size] w fun e w' => e = .returned (.bool true) ∧ Keeps w w' := by
  obtain ⟨a4, a5⟩ := back_2 h1 h2
  obtain ⟨a1, a2⟩ := bne_false_of h1
  obtain ⟨a6, a7⟩ := bne_true_of h3
  obtain ⟨a8, a9⟩ := bne_false_of a4
  have hsz := (sizedB_true (feeE_zero h1).1).2
  clear h1 h3 a4
  by_cases hB : rateE fee size = 0
  · obtain ⟨b1, b2, b3, b4⟩ := back_3 hB
    obtain ⟨b5, b6⟩ := bne_false_of hB
    obtain ⟨b7, b8⟩ := bne_false_of b1
    by_cases hC : feeE (rateV fee size + 1) size = 0
    · have c1 := back_4 hB hC
      obtain ⟨c2, c3⟩ := bne_false_of hC
      clear hB hC b1
      go_enter Tryd.func5, Tryd.ntmps5
      go_wp2_with (first | (go_at_call 7; refine (awake_any _ h).mono ?_; rintro e w1 ⟨rfl, hk⟩) | (go_at_call 11; refine (fee_any _ _ _).mono ?_; rintro e w' ⟨rfl, n, rfl⟩) | (go_at_call 13; refine (rate_any _ _ _).mono ?_; rintro e w' ⟨rfl, n, rfl⟩))
      go_ret
      exact ⟨rfl, hk.trans (Qt.keeps ⟨_, rfl⟩)⟩
    · obtain ⟨c2, c3⟩ := bne_true_of hC
      clear hB hC b1
      go_enter Tryd.func5, Tryd.ntmps5
      go_wp2_with (first | (go_at_call 7; refine (awake_any _ h).mono ?_; rintro e w1 ⟨rfl, hk⟩) | (go_at_call 11; refine (fee_any _ _ _).mono ?_; rintro e w' ⟨rfl, n, rfl⟩) | (go_at_call 13; refine (rate_any _ _ _).mono ?_; rintro e w' ⟨rfl, n, rfl⟩))
      go_ret
      exact ⟨rfl, hk.trans (Qt.keeps ⟨_, rfl⟩)⟩
  · obtain ⟨b5, b6⟩ := bne_true_of hB
    clear hB
    go_enter Tryd.func5, Tryd.ntmps5
    go_wp2_with (first | (go_at_call 7; refine (awake_any _ h).mono ?_; rintro e w1 ⟨rfl, hk⟩) | (go_at_call 11; refine (fee_any _ _ _).mono ?_; rintro e w' ⟨rfl, n, rfl⟩) | (go_at_call 13; refine (rate_any _ _ _).mono ?_; rintro e w' ⟨rfl, n, rfl⟩))
    go_ret
    exact ⟨rfl, hk.trans (Qt.keeps ⟨_, rfl⟩)⟩
theorem back_walk (rate fee size : Int) (w : World) (h : PowTab w) :
    Calls Tryd.prog 5 #[.int .i64 rate, .int .i64 fee, .int .i64 size] w fun e w' => e = .returned (.bool true) ∧ Keeps w w' := by
  by_cases h1 : feeE rate size = 0
  · by_cases h2 : size ≤ 0
    · exact back_s rate fee size h1 h2 w h
    · by_cases h3 : rateE (feeV rate size) size = 0
      · exact back_g rate fee size h1 (by omega) h3 w h
      · exact back_n rate fee size h1 (by omega) h3 w h
  · exact back_e rate fee size h1 w h
end Go.Proofs.YtgdbaejcbfofoaaDoor
