/- Contracts of package amount and of its reference: what Valid, Fee, Rate, Dust, Sub and Add hand back, for every argument. No condition. -/
import Derived.Test.YtgdbaejcbfofoaaDoorProg
import Derived.Test.YtgdbaejcbfofoaaDoorKit
namespace Go.Proofs.YtgdbaejcbfofoaaDoor
open Go Go.RowKit

def validB (v : Int) : Bool := decide (0 ≤ v) && decide (v ≤ 2100000000000000)
theorem validB_true {v : Int} (h0 : 0 ≤ v) (h1 : v ≤ 2100000000000000) : validB v = true := by unfold validB; simp; omega
theorem validB_of {v : Int} (h : validB v = true) : 0 ≤ v ∧ v ≤ 2100000000000000 := by unfold validB at h; simp at h; omega
theorem validB_not {v : Int} (h : validB v = false) : v < 0 ∨ 2100000000000000 < v := by unfold validB at h; simp at h; omega
def sizedB (s l : Int) : Bool := decide (l ≤ s) && decide (s ≤ 1000000)

theorem valid_any (v : Int) (w : World) : Calls Tryd.prog 10 #[.int .i64 v] w fun e w' => e = .returned (.bool (validB v)) ∧ w = w' := by
  go_enter Tryd.func10, Tryd.ntmps10
  go_wp2
  all_goals go_ret
  all_goals exact ⟨ret_bool (by unfold validB; simp; omega), rfl⟩

theorem rvalid_any (v : Int) (w : World) : Calls Tryd.prog 17 #[.int .i64 v] w fun e w' => e = .returned (.bool (validB v)) ∧ w = w' := by
  go_enter Tryd.func17, Tryd.ntmps17
  go_wp2
  all_goals go_ret
  all_goals exact ⟨ret_bool (by unfold validB; simp; omega), rfl⟩

theorem sized_any (s l : Int) (w : World) : Calls Tryd.prog 20 #[.int .i64 s, .int .i64 l] w fun e w' => e = .returned (.bool (sizedB s l)) ∧ w = w' := by
  go_enter Tryd.func20, Tryd.ntmps20
  go_wp2
  all_goals go_ret
  all_goals exact ⟨ret_bool (by unfold sizedB; simp; omega), rfl⟩

/-- the amount, or 0; the error's number -/
def vV (v : Int) : Int := if validB v then v else 0
def vE (v : Int) : Int := if validB v then 0 else 6
theorem validE_any (v : Int) (w : World) : Calls Tryd.prog 22 #[.int .i64 v] w fun e w' => e = .returned (.tuple #[.int .i64 (vV v), .int .i64 (vE v)]) ∧ w = w' := by
  by_cases h : validB v = true
  · go_enter Tryd.func22, Tryd.ntmps22
    go_wp2_with (go_at_call 10; refine (valid_any _ _).mono ?_; rintro e w' ⟨rfl, rfl⟩)
    go_ret2
    exact ⟨tuple2 (by simp [vV, h]) (by simp [vE, h]), rfl⟩
  · have h' : validB v = false := by simpa using h
    clear h
    go_enter Tryd.func22, Tryd.ntmps22
    go_wp2_with (go_at_call 10; refine (valid_any _ _).mono ?_; rintro e w' ⟨rfl, rfl⟩)
    go_ret2
    exact ⟨tuple2 (by simp [vV, h']) (by simp [vE, h']), rfl⟩

/-! a times b by c: bit by bit, and by parts -/
def bitAt (a k : Nat) : Nat := a / 2 ^ k % 2
theorem half_step (a k : Nat) : a / 2 ^ k = 2 * (a / 2 ^ (k+1)) + bitAt a k := by
  unfold bitAt
  rw [Nat.pow_succ, ← Nat.div_div_eq_div_mul]; omega
theorem times_step (A b c : Nat) (hc : 0 < c) (t : Nat) :
   (2 * A + t) * b / c = 2 * (A * b / c) + (2 * (A * b % c) + t * b) / c ∧ (2 * A + t) * b % c = (2 * (A * b % c) + t * b) % c := by
  have h := Nat.div_add_mod (A * b) c
  have e : (2 * A + t) * b = c * (2 * (A * b / c)) + (2 * (A * b % c) + t * b) := by
    have : (2 * A + t) * b = 2 * (A * b) + t * b := by rw [Nat.add_mul, Nat.mul_assoc]
    rw [this]; conv => lhs; rw [← h]
    rw [Nat.mul_add, Nat.mul_left_comm]; omega
  rw [e]
  exact ⟨by rw [Nat.mul_add_div hc], by rw [Nat.mul_add_mod]⟩
def TRel (a b c k q r : Nat) : Prop := q = a / 2 ^ k * b / c ∧ r = a / 2 ^ k * b % c
theorem TRel.step {a b c k q r : Nat} (hc : 1 ≤ c) (h : TRel a b c (k+1) q r) (t : Nat) (ht : bitAt a k = t) : TRel a b c k (q * 2 + (r * 2 + t * b) / c) ((r * 2 + t * b) % c) := by
  obtain ⟨rfl, rfl⟩ := h
  have hm := times_step (a / 2 ^ (k+1)) b c hc t
  unfold TRel
  rw [half_step a k, ht, hm.1, hm.2]
  simp only [Nat.mul_comm _ 2, and_self]
theorem idiv_bd (x c m : Nat) (h : x ≤ m) : 0 ≤ ((x : Nat) : Int) / ((c : Nat) : Int) ∧ ((x : Nat) : Int) / ((c : Nat) : Int) ≤ (m : Int) := by
  refine ⟨Int.ediv_nonneg (by omega) (by omega), ?_⟩
  have := Nat.div_le_self x c
  have h2 : ((x / c : Nat) : Int) ≤ (m : Int) := by omega
  simpa using h2
theorem div_mod_bit (a k : Nat) : (a : Int) / ((2 ^ k : Nat) : Int) % 2 = (bitAt a k : Int) := by
  unfold bitAt; simp
theorem bitAt_lt (a k : Nat) : bitAt a k < 2 := Nat.mod_lt _ (by omega)

theorem times_nat (a b c : Nat) (w : World) (ha' : a ≤ 2100000000000000) (hb' : b ≤ 1000000) (hc : 1 ≤ c) (hc' : c ≤ 1000000)
    (hq : a * b / c ≤ 2100000000000000000) :
   Calls Tryd.prog 23 #[.int .i64 a, .int .i64 b, .int .i64 c] w fun e w' => e = .returned (.tuple #[.int .i64 (a * b / c : Nat), .int .i64 (a * b % c : Nat)]) ∧ w = w' := by
  go_enter Tryd.func23, Tryd.ntmps23
  go_wp2
  go_loop [8, 9, 10] (fun q r i => ∃ k qn rn : Nat, k ≤ 52 ∧ q = .int .i64 qn ∧ r = .int .i64 rn ∧ TRel a b c k qn rn ∧ i = .int .i64 ((k : Int) - 1)) (fun _ _ i => (intOf i + 1).toNat)
  case atStart =>
    have : a / 2 ^ 52 = 0 := Nat.div_eq_of_lt (by omega)
    exact ⟨52, 0, 0, by omega, rfl, rfl, by unfold TRel; rw [this]; simp, by simp⟩
  case round =>
    obtain ⟨k, q, r, hk, rfl, rfl, hR, rfl⟩ := hrel
    cases k with
    | zero =>
      go_wp2
      go_ret2
      obtain ⟨h1, h2⟩ := hR
      simp at h1 h2
      subst h1 h2
      exact ⟨by simp, rfl⟩
    | succ k =>
      have hrc : r < c := by rw [hR.2]; exact Nat.mod_lt _ hc
      have hst1 := fun t => TRel.step hc hR t
      have hqb : q ≤ 2100000000000000000 := by
        rw [hR.1]; refine Nat.le_trans (Nat.div_le_div_right (Nat.mul_le_mul_right _ (Nat.div_le_self _ _))) hq
      have d1 := idiv_bd (r*2) c 4000000 (by omega)
      have d2 := idiv_bd (r*2+b) c 4000000 (by omega)
      have ha0 := (idiv_bd a (2^k) a (by omega)).1
      have d3 := div_mod_bit a k
      simp only [Int.natCast_mul, Int.natCast_add, Int.natCast_pow, Int.cast_ofNat_Int] at d1 d2 ha0 d3
      have HR := Lib.hid hR; clear hR
      have HS := Lib.hid hst1; clear hst1
      have HD := Lib.hid d3; clear d3
      go_wp2
      · have ht : ((a:Int) / 2 ^ k % 2 == 1) = true := by assumption
        refine ⟨⟨k, q * 2 + (r * 2 + 1 * b) / c, (r * 2 + 1 * b) % c, by omega, ?_, ?_, HS.out 1 ?_, rfl⟩, ?_⟩
        · simp
        · simp
        · have := HD.out; simp only [beq_iff_eq] at ht; rw [ht] at this; omega
        · simp [intOf]
      · have ht : ((a:Int) / 2 ^ k % 2 == 1) = false := by assumption
        refine ⟨⟨k, q * 2 + (r * 2 + 0 * b) / c, (r * 2 + 0 * b) % c, by omega, ?_, ?_, HS.out 0 ?_, rfl⟩, ?_⟩
        · simp
        · simp
        · have := HD.out; simp only [beq_eq_false_iff_ne] at ht; have := bitAt_lt a k; omega
        · simp [intOf]

theorem mul_bound (a b c : Int) (ha : 0 ≤ a) (hb : 0 ≤ b) (hc : 1 ≤ c) (m : Int) (h : a * b ≤ m) : 0 ≤ a * b ∧ 0 ≤ a * b / c ∧ a * b / c ≤ m ∧ 0 ≤ a * b % c ∧ a * b % c < c := by
  have h0 : 0 ≤ a * b := Int.mul_nonneg ha hb
  exact ⟨h0, Int.ediv_nonneg h0 (by omega), Int.le_trans (Int.ediv_le_self c h0) h, Int.emod_nonneg _ (by omega), Int.emod_lt_of_pos _ (by omega)⟩

theorem times_any (a b c : Int) (w : World) (ha : 0 ≤ a) (ha' : a ≤ 2100000000000000) (hb : 0 ≤ b) (hb' : b ≤ 1000000) (hc : 1 ≤ c) (hc' : c ≤ 1000000)
    (hq : a * b / c ≤ 2100000000000000000) :
   Calls Tryd.prog 23 #[.int .i64 a, .int .i64 b, .int .i64 c] w fun e w' => e = .returned (.tuple #[.int .i64 (a * b / c), .int .i64 (a * b % c)]) ∧ w = w' := by
  obtain ⟨a, rfl⟩ := Int.eq_ofNat_of_zero_le ha
  obtain ⟨b, rfl⟩ := Int.eq_ofNat_of_zero_le hb
  obtain ⟨c, rfl⟩ := Int.eq_ofNat_of_zero_le (show 0 ≤ c by omega)
  refine (times_nat a b c w (by omega) (by omega) (by omega) (by omega) (by have h : ((a * b / c : Nat) : Int) ≤ 2100000000000000000 := by simpa using hq
                                                                            omega)).mono ?_
  rintro e w' ⟨rfl, rfl⟩
  exact ⟨by simp, rfl⟩

theorem share_law (a b c : Int) (hc : 1 ≤ c) : a / c * b + a % c * b / c = a * b / c ∧ a % c * b % c = a * b % c := by
  have h : a * b = a % c * b + c * (a / c * b) := by
    have := Int.mul_ediv_add_emod a c
    conv => lhs; rw [← this]
    rw [Int.add_mul, Int.mul_assoc]; omega
  rw [h]
  refine ⟨?_, ?_⟩
  · rw [Int.add_mul_ediv_left _ _ (by omega)]; omega
  · rw [Int.add_mul_emod_self_left]

theorem share_any (a b c : Int) (w : World) (ha : 0 ≤ a) (ha' : a ≤ 2100000000000000) (hb : 0 ≤ b) (hb' : b ≤ 1000000) (hc : 1 ≤ c) (hc' : c ≤ 1000000)
   (hq : a * b / c ≤ 2100000000000000000) : Calls Tryd.prog 21 #[.int .i64 a, .int .i64 b, .int .i64 c] w fun e w' => e = .returned (.tuple #[.int .i64 (a * b / c), .int .i64 (a * b % c)]) ∧ Qt w w' := by
  have hl := share_law a b c hc
  have q0 : 0 ≤ a / c := Int.ediv_nonneg ha (by omega)
  have q0' : a / c ≤ 2100000000000000 := by have := Int.ediv_le_self c ha; omega
  have r0 : 0 ≤ a % c := Int.emod_nonneg _ (by omega)
  have r1 : a % c < c := Int.emod_lt_of_pos _ (by omega)
  have p0 : 0 ≤ a % c * b := Int.mul_nonneg r0 hb
  have p1 : a % c * b ≤ 1000000000000 := by
    have h2 : a % c * b ≤ 1000000 * b := Int.mul_le_mul_of_nonneg_right (by omega) hb
    omega
  have p2 : 0 ≤ a / c * b := Int.mul_nonneg q0 hb
  have p3 : 0 ≤ a % c * b / c := Int.ediv_nonneg p0 (by omega)
  have p4 : a % c * b / c ≤ 1000000000000 := by have := Int.ediv_le_self c p0; omega
  have p5 : a / c * b ≤ 2100000000000000000 := by omega
  have HL := Lib.hid hl; clear hl hq
  go_enter Tryd.func21, Tryd.ntmps21
  go_wp2
  go_quiet (fail)
  go_wp2
  go_quiet (fail)
  go_wp2
  go_ret2
  exact ⟨tuple2 HL.out.1 HL.out.2, _, World.drewN_drewN _ _ _⟩

/-! Fee, Rate -/
def feeN (rate size : Int) : Int := if 0 < rate * size % 1000 then rate * size / 1000 + 1 else rate * size / 1000
def feeV (rate size : Int) : Int := if sizedB size 0 && validB rate then vV (feeN rate size) else 0
def feeE (rate size : Int) : Int := if sizedB size 0 then (if validB rate then vE (feeN rate size) else 6) else 1
def rateN (fee size : Int) : Int := fee * 1000 / size
def rateV (fee size : Int) : Int := if sizedB size 1 && validB fee then vV (rateN fee size) else 0
def rateE (fee size : Int) : Int := if sizedB size 1 then (if validB fee then vE (rateN fee size) else 6) else 1
theorem sizedB_true {s l : Int} (h : sizedB s l = true) : l ≤ s ∧ s ≤ 1000000 := by unfold sizedB at h; simp at h; exact h
theorem sizedB_false {s l : Int} (h : sizedB s l = false) : s < l ∨ 1000000 < s := by unfold sizedB at h; simp at h; omega

theorem fee_bound {rate size : Int} (hs : sizedB size 0 = true) (hv : validB rate = true) : 0 ≤ rate ∧ rate ≤ 2100000000000000 ∧ 0 ≤ size ∧ size ≤ 1000000 ∧ 0 ≤ rate * size / 1000 ∧ rate * size / 1000 ≤ 2100000000000000000 := by
  have h1 := sizedB_true hs
  have h2 := validB_of hv
  have h3 : rate * size ≤ 2100000000000000 * size := Int.mul_le_mul_of_nonneg_right h2.2 h1.1
  have h4 : 0 ≤ rate * size := Int.mul_nonneg h2.1 h1.1
  omega
theorem rate_bound {fee size : Int} (hs : sizedB size 1 = true) (hv : validB fee = true) : 0 ≤ fee ∧ fee ≤ 2100000000000000 ∧ 1 ≤ size ∧ size ≤ 1000000 ∧ 0 ≤ fee * 1000 / size ∧ fee * 1000 / size ≤ 2100000000000000000 := by
  have h1 := sizedB_true hs
  have h2 := validB_of hv
  have h4 : 0 ≤ fee * 1000 := by omega
  have h5 := Int.ediv_le_self size h4
  have h6 := Int.ediv_nonneg h4 (show 0 ≤ size by omega)
  omega

theorem fee_any (rate size : Int) (w : World) : Calls Tryd.prog 11 #[.int .i64 rate, .int .i64 size] w fun e w' => e = .returned (.tuple #[.int .i64 (feeV rate size), .int .i64 (feeE rate size)]) ∧ Qt w w' := by
  by_cases hs : sizedB size 0 = true
  · by_cases hv : validB rate = true
    · obtain ⟨a0, a1, s0, s1, q0, q1⟩ := fee_bound hs hv
      by_cases hr : 0 < rate * size % 1000
      · have hN : feeN rate size = rate * size / 1000 + 1 := by unfold feeN; rw [if_pos hr]
        have HN := Lib.hid hN; clear hN
        go_enter Tryd.func11, Tryd.ntmps11
        go_wp2_with (first | (go_at_call 20; refine (sized_any _ _ _).mono ?_; rintro e w' ⟨rfl, rfl⟩) | (go_at_call 10; refine (valid_any _ _).mono ?_; rintro e w' ⟨rfl, rfl⟩) | (go_at_call 21; refine (share_any _ _ _ _ a0 a1 s0 s1 (by omega) (by omega) q1).mono ?_; rintro e w' ⟨rfl, n, rfl⟩) | (go_at_call 22; refine (validE_any _ _).mono ?_; rintro e w' ⟨rfl, rfl⟩))
        go_ret2
        exact ⟨tuple2 (by rw [feeV, hs, hv, HN.out]; rfl) (by rw [feeE, hs, hv, HN.out]; rfl), _, rfl⟩
      · have hN : feeN rate size = rate * size / 1000 := by unfold feeN; rw [if_neg hr]
        have HN := Lib.hid hN; clear hN
        go_enter Tryd.func11, Tryd.ntmps11
        go_wp2_with (first | (go_at_call 20; refine (sized_any _ _ _).mono ?_; rintro e w' ⟨rfl, rfl⟩) | (go_at_call 10; refine (valid_any _ _).mono ?_; rintro e w' ⟨rfl, rfl⟩) | (go_at_call 21; refine (share_any _ _ _ _ a0 a1 s0 s1 (by omega) (by omega) q1).mono ?_; rintro e w' ⟨rfl, n, rfl⟩) | (go_at_call 22; refine (validE_any _ _).mono ?_; rintro e w' ⟨rfl, rfl⟩))
        go_ret2
        exact ⟨tuple2 (by rw [feeV, hs, hv, HN.out]; rfl) (by rw [feeE, hs, hv, HN.out]; rfl), _, rfl⟩
    · have hv' : validB rate = false := by simpa using hv
      clear hv
      go_enter Tryd.func11, Tryd.ntmps11
      go_wp2_with (first | (go_at_call 20; refine (sized_any _ _ _).mono ?_; rintro e w' ⟨rfl, rfl⟩) | (go_at_call 10; refine (valid_any _ _).mono ?_; rintro e w' ⟨rfl, rfl⟩))
      go_ret2
      exact ⟨tuple2 (by rw [feeV, hs, hv']; rfl) (by rw [feeE, hs, hv']; rfl), Qt.refl _⟩
  · have hs' : sizedB size 0 = false := by simpa using hs
    clear hs
    go_enter Tryd.func11, Tryd.ntmps11
    go_wp2_with (first | (go_at_call 20; refine (sized_any _ _ _).mono ?_; rintro e w' ⟨rfl, rfl⟩))
    go_ret2
    exact ⟨tuple2 (by rw [feeV, hs']; rfl) (by rw [feeE, hs']; rfl), Qt.refl _⟩

theorem rate_any (fee size : Int) (w : World) : Calls Tryd.prog 13 #[.int .i64 fee, .int .i64 size] w fun e w' => e = .returned (.tuple #[.int .i64 (rateV fee size), .int .i64 (rateE fee size)]) ∧ Qt w w' := by
  by_cases hs : sizedB size 1 = true
  · by_cases hv : validB fee = true
    · obtain ⟨a0, a1, s0, s1, q0, q1⟩ := rate_bound hs hv
      go_enter Tryd.func13, Tryd.ntmps13
      go_wp2_with (first | (go_at_call 20; refine (sized_any _ _ _).mono ?_; rintro e w' ⟨rfl, rfl⟩) | (go_at_call 10; refine (valid_any _ _).mono ?_; rintro e w' ⟨rfl, rfl⟩) | (go_at_call 21; refine (share_any _ _ _ _ a0 a1 (by omega) (by omega) s0 s1 q1).mono ?_; rintro e w' ⟨rfl, n, rfl⟩) | (go_at_call 22; refine (validE_any _ _).mono ?_; rintro e w' ⟨rfl, rfl⟩))
      go_ret2
      exact ⟨tuple2 (by rw [rateV, hs, hv]; rfl) (by rw [rateE, hs, hv]; rfl), _, rfl⟩
    · have hv' : validB fee = false := by simpa using hv
      clear hv
      go_enter Tryd.func13, Tryd.ntmps13
      go_wp2_with (first | (go_at_call 20; refine (sized_any _ _ _).mono ?_; rintro e w' ⟨rfl, rfl⟩) | (go_at_call 10; refine (valid_any _ _).mono ?_; rintro e w' ⟨rfl, rfl⟩))
      go_ret2
      exact ⟨tuple2 (by rw [rateV, hs, hv']; rfl) (by rw [rateE, hs, hv']; rfl), Qt.refl _⟩
  · have hs' : sizedB size 1 = false := by simpa using hs
    clear hs
    go_enter Tryd.func13, Tryd.ntmps13
    go_wp2_with (first | (go_at_call 20; refine (sized_any _ _ _).mono ?_; rintro e w' ⟨rfl, rfl⟩))
    go_ret2
    exact ⟨tuple2 (by rw [rateV, hs']; rfl) (by rw [rateE, hs']; rfl), Qt.refl _⟩

theorem rfee_any (rate size : Int) (w : World) : Calls Tryd.prog 12 #[.int .i64 rate, .int .i64 size] w fun e w' => e = .returned (.tuple #[.int .i64 (feeV rate size), .int .i64 (feeE rate size)]) ∧ w = w' := by
  by_cases hs : sizedB size 0 = true
  · have hsz := sizedB_true hs
    by_cases hv : validB rate = true
    · obtain ⟨a0, a1, s0, s1, q0, q1⟩ := fee_bound hs hv
      by_cases hr : 0 < rate * size % 1000
      · have hN : feeN rate size = rate * size / 1000 + 1 := by unfold feeN; rw [if_pos hr]
        have HNN := Lib.hid hN; clear hN
        by_cases hn : validB (feeN rate size) = true
        · have hn' := hn
          rw [HNN.out] at hn'
          have HN := Lib.hid hn; clear hn
          go_enter Tryd.func12, Tryd.ntmps12
          go_wp2_with (first | (go_at_call 17; refine (rvalid_any _ _).mono ?_; rintro e w' ⟨rfl, rfl⟩) | (go_at_call 23; refine (times_any _ _ _ _ a0 a1 s0 s1 (by omega) (by omega) q1).mono ?_; rintro e w' ⟨rfl, rfl⟩))
          go_ret2
          exact ⟨tuple2 (by rw [feeV, hs, hv, vV, HN.out, HNN.out]; rfl) (by rw [feeE, hs, hv, vE, HN.out]; rfl), rfl⟩
        · have hn' : validB (feeN rate size) = false := by simpa using hn
          rw [HNN.out] at hn'
          have HN := Lib.hid hn; clear hn
          go_enter Tryd.func12, Tryd.ntmps12
          go_wp2_with (first | (go_at_call 17; refine (rvalid_any _ _).mono ?_; rintro e w' ⟨rfl, rfl⟩) | (go_at_call 23; refine (times_any _ _ _ _ a0 a1 s0 s1 (by omega) (by omega) q1).mono ?_; rintro e w' ⟨rfl, rfl⟩))
          go_ret2
          exact ⟨tuple2 (by rw [feeV, hs, hv, vV, if_neg HN.out]; rfl) (by rw [feeE, hs, hv, vE, if_neg HN.out]; rfl), rfl⟩
      · have hN : feeN rate size = rate * size / 1000 := by unfold feeN; rw [if_neg hr]
        have HNN := Lib.hid hN; clear hN
        by_cases hn : validB (feeN rate size) = true
        · have hn' := hn
          rw [HNN.out] at hn'
          have HN := Lib.hid hn; clear hn
          go_enter Tryd.func12, Tryd.ntmps12
          go_wp2_with (first | (go_at_call 17; refine (rvalid_any _ _).mono ?_; rintro e w' ⟨rfl, rfl⟩) | (go_at_call 23; refine (times_any _ _ _ _ a0 a1 s0 s1 (by omega) (by omega) q1).mono ?_; rintro e w' ⟨rfl, rfl⟩))
          go_ret2
          exact ⟨tuple2 (by rw [feeV, hs, hv, vV, HN.out, HNN.out]; rfl) (by rw [feeE, hs, hv, vE, HN.out]; rfl), rfl⟩
        · have hn' : validB (feeN rate size) = false := by simpa using hn
          rw [HNN.out] at hn'
          have HN := Lib.hid hn; clear hn
          go_enter Tryd.func12, Tryd.ntmps12
          go_wp2_with (first | (go_at_call 17; refine (rvalid_any _ _).mono ?_; rintro e w' ⟨rfl, rfl⟩) | (go_at_call 23; refine (times_any _ _ _ _ a0 a1 s0 s1 (by omega) (by omega) q1).mono ?_; rintro e w' ⟨rfl, rfl⟩))
          go_ret2
          exact ⟨tuple2 (by rw [feeV, hs, hv, vV, if_neg HN.out]; rfl) (by rw [feeE, hs, hv, vE, if_neg HN.out]; rfl), rfl⟩
    · have hv' : validB rate = false := by simpa using hv
      clear hv
      go_enter Tryd.func12, Tryd.ntmps12
      go_wp2_with (first | (go_at_call 17; refine (rvalid_any _ _).mono ?_; rintro e w' ⟨rfl, rfl⟩))
      go_ret2
      exact ⟨tuple2 (by rw [feeV, hs, hv']; rfl) (by rw [feeE, hs, hv']; rfl), rfl⟩
  · have hs' : sizedB size 0 = false := by simpa using hs
    clear hs
    rcases sizedB_false hs' with hb | hb
    · go_enter Tryd.func12, Tryd.ntmps12
      go_wp2_with (first | (go_at_call 17; refine (rvalid_any _ _).mono ?_; rintro e w' ⟨rfl, rfl⟩))
      go_ret2
      exact ⟨tuple2 (by rw [feeV, hs']; rfl) (by rw [feeE, hs']; rfl), rfl⟩
    · go_enter Tryd.func12, Tryd.ntmps12
      go_wp2_with (first | (go_at_call 17; refine (rvalid_any _ _).mono ?_; rintro e w' ⟨rfl, rfl⟩))
      go_ret2
      exact ⟨tuple2 (by rw [feeV, hs']; rfl) (by rw [feeE, hs']; rfl), rfl⟩

theorem rrate_any (fee size : Int) (w : World) : Calls Tryd.prog 14 #[.int .i64 fee, .int .i64 size] w fun e w' => e = .returned (.tuple #[.int .i64 (rateV fee size), .int .i64 (rateE fee size)]) ∧ w = w' := by
  by_cases hs : sizedB size 1 = true
  · have hsz := sizedB_true hs
    by_cases hv : validB fee = true
    · obtain ⟨a0, a1, s0, s1, q0, q1⟩ := rate_bound hs hv
      have HNN : Hid (rateN fee size = fee * 1000 / size) := Lib.hid rfl
      by_cases hn : validB (rateN fee size) = true
      · have hn' := hn
        rw [HNN.out] at hn'
        have HN := Lib.hid hn; clear hn
        go_enter Tryd.func14, Tryd.ntmps14
        go_wp2_with (first | (go_at_call 17; refine (rvalid_any _ _).mono ?_; rintro e w' ⟨rfl, rfl⟩) | (go_at_call 23; refine (times_any _ _ _ _ a0 a1 (by omega) (by omega) s0 s1 q1).mono ?_; rintro e w' ⟨rfl, rfl⟩))
        go_ret2
        exact ⟨tuple2 (by rw [rateV, hs, hv, vV, HN.out, HNN.out]; rfl) (by rw [rateE, hs, hv, vE, HN.out]; rfl), rfl⟩
      · have hn' : validB (rateN fee size) = false := by simpa using hn
        rw [HNN.out] at hn'
        have HN := Lib.hid hn; clear hn
        go_enter Tryd.func14, Tryd.ntmps14
        go_wp2_with (first | (go_at_call 17; refine (rvalid_any _ _).mono ?_; rintro e w' ⟨rfl, rfl⟩) | (go_at_call 23; refine (times_any _ _ _ _ a0 a1 (by omega) (by omega) s0 s1 q1).mono ?_; rintro e w' ⟨rfl, rfl⟩))
        go_ret2
        exact ⟨tuple2 (by rw [rateV, hs, hv, vV, if_neg HN.out]; rfl) (by rw [rateE, hs, hv, vE, if_neg HN.out]; rfl), rfl⟩
    · have hv' : validB fee = false := by simpa using hv
      clear hv
      go_enter Tryd.func14, Tryd.ntmps14
      go_wp2_with (first | (go_at_call 17; refine (rvalid_any _ _).mono ?_; rintro e w' ⟨rfl, rfl⟩))
      go_ret2
      exact ⟨tuple2 (by rw [rateV, hs, hv']; rfl) (by rw [rateE, hs, hv']; rfl), rfl⟩
  · have hs' : sizedB size 1 = false := by simpa using hs
    clear hs
    rcases sizedB_false hs' with hb | hb
    · go_enter Tryd.func14, Tryd.ntmps14
      go_wp2_with (first | (go_at_call 17; refine (rvalid_any _ _).mono ?_; rintro e w' ⟨rfl, rfl⟩))
      go_ret2
      exact ⟨tuple2 (by rw [rateV, hs']; rfl) (by rw [rateE, hs']; rfl), rfl⟩
    · go_enter Tryd.func14, Tryd.ntmps14
      go_wp2_with (first | (go_at_call 17; refine (rvalid_any _ _).mono ?_; rintro e w' ⟨rfl, rfl⟩))
      go_ret2
      exact ⟨tuple2 (by rw [rateV, hs']; rfl) (by rw [rateE, hs']; rfl), rfl⟩

/-! Dust, Sub -/
def dustV (n : Int) : Int := if n < 0 then 0 else 3 * (min n 1000000 + 148)
theorem dust_any (n : Int) (w : World) : Calls Tryd.prog 8 #[.int .i64 n] w fun e w' => e = .returned (.int .i64 (dustV n)) ∧ w = w' := by
  by_cases h : n < 0
  · go_enter Tryd.func8, Tryd.ntmps8
    go_wp2
    go_ret
    exact ⟨ret_int (by rw [dustV, if_pos h]), rfl⟩
  · by_cases h2 : n ≤ 1000000
    · have hmin : min n 1000000 = n := by omega
      go_enter Tryd.func8, Tryd.ntmps8
      go_wp2
      go_ret
      exact ⟨ret_int (by rw [dustV, if_neg (by omega), hmin]), rfl⟩
    · have hmin : min n 1000000 = 1000000 := by omega
      go_enter Tryd.func8, Tryd.ntmps8
      go_wp2
      go_ret
      exact ⟨ret_int (by rw [dustV, if_neg (by omega), hmin]; rfl), rfl⟩
theorem rdust_any (n : Int) (w : World) : Calls Tryd.prog 9 #[.int .i64 n] w fun e w' => e = .returned (.int .i64 (dustV n)) ∧ w = w' := by
  by_cases h : n < 0
  · go_enter Tryd.func9, Tryd.ntmps9
    go_wp2
    go_ret
    exact ⟨ret_int (by rw [dustV, if_pos h]), rfl⟩
  · by_cases h2 : n ≤ 1000000
    · go_enter Tryd.func9, Tryd.ntmps9
      go_wp2
      go_ret
      exact ⟨ret_int (by rw [dustV, if_neg (by omega)]; omega), rfl⟩
    · go_enter Tryd.func9, Tryd.ntmps9
      go_wp2
      go_ret
      exact ⟨ret_int (by rw [dustV, if_neg (by omega)]; omega), rfl⟩

def subV (a b : Int) : Int := if validB a && validB b then vV (a - b) else 0
def subE (a b : Int) : Int := if validB a && validB b then vE (a - b) else 6
theorem sub_any (a b : Int) (w : World) : Calls Tryd.prog 18 #[.int .i64 a, .int .i64 b] w fun e w' => e = .returned (.tuple #[.int .i64 (subV a b), .int .i64 (subE a b)]) ∧ w = w' := by
  by_cases ha : validB a = true
  · by_cases hb : validB b = true
    · have h1 := validB_of ha
      have h2 := validB_of hb
      go_enter Tryd.func18, Tryd.ntmps18
      go_wp2_with (first | (go_at_call 10; refine (valid_any _ _).mono ?_; rintro e w' ⟨rfl, rfl⟩) | (go_at_call 22; refine (validE_any _ _).mono ?_; rintro e w' ⟨rfl, rfl⟩))
      go_ret2
      exact ⟨tuple2 (by rw [subV, ha, hb]; rfl) (by rw [subE, ha, hb]; rfl), rfl⟩
    · have hb' : validB b = false := by simpa using hb
      clear hb
      go_enter Tryd.func18, Tryd.ntmps18
      go_wp2_with (first | (go_at_call 10; refine (valid_any _ _).mono ?_; rintro e w' ⟨rfl, rfl⟩) | (go_at_call 22; refine (validE_any _ _).mono ?_; rintro e w' ⟨rfl, rfl⟩))
      go_ret2
      exact ⟨tuple2 (by rw [subV, ha, hb']; rfl) (by rw [subE, ha, hb']; rfl), rfl⟩
  · have ha' : validB a = false := by simpa using ha
    clear ha
    go_enter Tryd.func18, Tryd.ntmps18
    go_wp2_with (first | (go_at_call 10; refine (valid_any _ _).mono ?_; rintro e w' ⟨rfl, rfl⟩) | (go_at_call 22; refine (validE_any _ _).mono ?_; rintro e w' ⟨rfl, rfl⟩))
    go_ret2
    exact ⟨tuple2 (by rw [subV, ha']; rfl) (by rw [subE, ha']; rfl), rfl⟩

/-! Add -/
def addGo (s : Int) : List Int → Int × Int
  | [] => (s, 0)
  | v :: r => if validB v && validB (s + v) then addGo (s + v) r else (0, 6)
theorem addGo_cons (s : Int) (zs : List Int) (k : Nat) (h : k < zs.length) : addGo s (zs.drop k) = if validB (zs.getD k 0) && validB (s + zs.getD k 0) then addGo (s + zs.getD k 0) (zs.drop (k+1)) else (0, 6) := by
  have e : zs.getD k 0 = zs[k] := by simp [h]
  rw [List.drop_eq_getElem_cons h, addGo, e]
theorem add_nil (w : World) (a : Option Addr) (cap : Nat) : Calls Tryd.prog 15 #[.slice a 0 cap] w fun e w' => e = .returned (.tuple #[.int .i64 0, .int .i64 0]) ∧ w = w' := by
  go_enter Tryd.func15, Tryd.ntmps15
  go_wp2
  refine wp_loop_once ?_
  go_wp2
  go_ret2
  exact ⟨rfl, rfl⟩

theorem add_row (w : World) (b off cap : Nat) (zs : List Int) (hc : IntsAt .i64 w b off zs) (hm : zs.length ≤ 9223372036854775807) :
    Calls Tryd.prog 15 #[.slice (some ⟨b, off, none⟩) zs.length cap] w fun e w' => e = .returned (.tuple #[.int .i64 (addGo 0 zs).1, .int .i64 (addGo 0 zs).2]) ∧ w = w' := by
  go_enter Tryd.func15, Tryd.ntmps15
  go_wp2
  go_loop [4, 6, 9] (fun s v i => ∃ (k : Nat) (sn : Int), k ≤ zs.length ∧ i = .int .i64 k ∧ s = .int .i64 sn ∧ 0 ≤ sn ∧ sn ≤ 2100000000000000 ∧ Hid (addGo 0 zs = addGo sn (zs.drop k))) (fun _ _ i => zs.length - (intOf i).toNat)
  case atStart => exact ⟨0, 0, Nat.zero_le _, rfl, rfl, by omega, by omega, Lib.hid (by simp)⟩
  case round =>
    obtain ⟨k, sn, hk, rfl, rfl, h0, h1, H⟩ := hrel
    by_cases hlt : k < zs.length
    · have hcell := hc k hlt
      have hstep := addGo_cons sn zs k hlt
      have HC := Lib.hid hc; clear hc
      generalize zs.getD k 0 = z at *
      by_cases hv : validB z = true
      · have hvz := validB_of hv
        by_cases hs : validB (sn + z) = true
        · have hvs := validB_of hs
          rw [hv, hs] at hstep
          have HS := Lib.hid hstep; clear hstep
          go_wp2_with (go_at_call 10; refine (valid_any _ _).mono ?_; rintro e w' ⟨rfl, rfl⟩)
          go_round
          case rel => exact ⟨k + 1, sn + z, by omega, by go_num, rfl, by omega, by omega, Lib.hid (H.out.trans HS.out)⟩
          case measure => simp [intOf]; omega
        · have hs' : validB (sn + z) = false := by simpa using hs
          rw [hv, hs'] at hstep
          have HS := Lib.hid hstep; clear hstep hs
          go_wp2_with (go_at_call 10; refine (valid_any _ _).mono ?_; rintro e w' ⟨rfl, rfl⟩)
          go_ret2
          exact ⟨by rw [H.out, HS.out]; rfl, rfl⟩
      · have hv' : validB z = false := by simpa using hv
        rw [hv'] at hstep
        have HS := Lib.hid hstep; clear hstep hv
        go_wp2_with (go_at_call 10; refine (valid_any _ _).mono ?_; rintro e w' ⟨rfl, rfl⟩)
        go_ret2
        exact ⟨by rw [H.out, HS.out]; rfl, rfl⟩
    · have he : zs.drop k = [] := List.drop_eq_nil_of_le (by omega)
      have HE := Lib.hid he; clear he
      have HC := Lib.hid hc; clear hc
      go_wp2
      go_ret2
      exact ⟨by rw [H.out, HE.out]; rfl, rfl⟩

theorem radd_nil (w : World) (a : Option Addr) (cap : Nat) : Calls Tryd.prog 16 #[.slice a 0 cap] w fun e w' => e = .returned (.tuple #[.int .i64 0, .int .i64 0]) ∧ w = w' := by
  go_enter Tryd.func16, Tryd.ntmps16
  go_wp2
  refine wp_loop_once ?_
  go_wp2
  go_ret2
  exact ⟨rfl, rfl⟩

theorem radd_row (w : World) (b off cap : Nat) (zs : List Int) (hc : IntsAt .i64 w b off zs) (hm : zs.length ≤ 9223372036854775807) :
    Calls Tryd.prog 16 #[.slice (some ⟨b, off, none⟩) zs.length cap] w fun e w' => e = .returned (.tuple #[.int .i64 (addGo 0 zs).1, .int .i64 (addGo 0 zs).2]) ∧ w = w' := by
  go_enter Tryd.func16, Tryd.ntmps16
  go_wp2
  go_loop [4, 5] (fun s i => ∃ (k : Nat) (sn : Int), k ≤ zs.length ∧ i = .int .i64 k ∧ s = .int .i64 sn ∧ 0 ≤ sn ∧ sn ≤ 2100000000000000 ∧ Hid (addGo 0 zs = addGo sn (zs.drop k))) (fun _ i => zs.length - (intOf i).toNat)
  case atStart => exact ⟨0, 0, Nat.zero_le _, rfl, rfl, by omega, by omega, Lib.hid (by simp)⟩
  case round =>
    obtain ⟨k, sn, hk, rfl, rfl, h0, h1, H⟩ := hrel
    by_cases hlt : k < zs.length
    · have hcell := hc k hlt
      have hstep := addGo_cons sn zs k hlt
      have HC := Lib.hid hc; clear hc
      generalize zs.getD k 0 = z at *
      by_cases hv : validB z = true
      · have hvz := validB_of hv
        by_cases hs : validB (sn + z) = true
        · have hvs := validB_of hs
          rw [hv, hs] at hstep
          have HS := Lib.hid hstep; clear hstep
          go_wp2_with (go_at_call 17; refine (rvalid_any _ _).mono ?_; rintro e w' ⟨rfl, rfl⟩)
          go_round
          case rel => exact ⟨k + 1, sn + z, by omega, by go_num, rfl, by omega, by omega, Lib.hid (H.out.trans HS.out)⟩
          case measure => simp [intOf]; omega
        · have hs' : validB (sn + z) = false := by simpa using hs
          rw [hv, hs'] at hstep
          have HS := Lib.hid hstep; clear hstep hs
          go_wp2_with (go_at_call 17; refine (rvalid_any _ _).mono ?_; rintro e w' ⟨rfl, rfl⟩)
          go_ret2
          exact ⟨by rw [H.out, HS.out]; rfl, rfl⟩
      · have hv' : validB z = false := by simpa using hv
        rw [hv'] at hstep
        have HS := Lib.hid hstep; clear hstep hv
        go_wp2_with (go_at_call 17; refine (rvalid_any _ _).mono ?_; rintro e w' ⟨rfl, rfl⟩)
        go_ret2
        exact ⟨by rw [H.out, HS.out]; rfl, rfl⟩
    · have he : zs.drop k = [] := List.drop_eq_nil_of_le (by omega)
      have HE := Lib.hid he; clear he
      have HC := Lib.hid hc; clear hc
      go_wp2
      go_ret2
      exact ⟨by rw [H.out, HE.out]; rfl, rfl⟩

theorem add_any (w : World) (a : Option Addr) (cap len : Nat) (zs : List Int) (hl : zs.length = len) (hc : SlInts .i64 w a zs) (hm : len ≤ 9223372036854775807) :
    Calls Tryd.prog 15 #[.slice a len cap] w fun e w' => e = .returned (.tuple #[.int .i64 (addGo 0 zs).1, .int .i64 (addGo 0 zs).2]) ∧ w = w' := by
  subst hl
  by_cases hz : zs = []
  · subst hz; exact add_nil w a cap
  · obtain ⟨b, off, rfl, _, h⟩ := hc hz
    exact add_row w b off cap zs h hm
theorem radd_any (w : World) (a : Option Addr) (cap len : Nat) (zs : List Int) (hl : zs.length = len) (hc : SlInts .i64 w a zs) (hm : len ≤ 9223372036854775807) :
    Calls Tryd.prog 16 #[.slice a len cap] w fun e w' => e = .returned (.tuple #[.int .i64 (addGo 0 zs).1, .int .i64 (addGo 0 zs).2]) ∧ w = w' := by
  subst hl
  by_cases hz : zs = []
  · subst hz; exact radd_nil w a cap
  · obtain ⟨b, off, rfl, _, h⟩ := hc hz
    exact radd_row w b off cap zs h hm
end Go.Proofs.YtgdbaejcbfofoaaDoor
