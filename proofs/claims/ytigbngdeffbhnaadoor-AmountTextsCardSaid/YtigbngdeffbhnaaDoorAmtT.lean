/- Contracts of package amount that the law on texts reaches (cut out of XAmt). -/
import Derived.Test.YtigbngdeffbhnaaDoorProg
import Derived.Test.YtigbngdeffbhnaaDoorKit
namespace Go.Proofs.YtigbngdeffbhnaaDoor
set_option linter.unusedVariables false
set_option linter.unusedSimpArgs false
open Go Go.RowKit

def validB (v : Int) : Bool := decide (0 ≤ v) && decide (v ≤ 2100000000000000)
theorem validB_true {v : Int} (h0 : 0 ≤ v) (h1 : v ≤ 2100000000000000) : validB v = true := by unfold validB; simp; omega
theorem validB_of {v : Int} (h : validB v = true) : 0 ≤ v ∧ v ≤ 2100000000000000 := by unfold validB at h; simp at h; omega
theorem validB_not {v : Int} (h : validB v = false) : v < 0 ∨ 2100000000000000 < v := by unfold validB at h; simp at h; omega
def sizedB (s l : Int) : Bool := decide (l ≤ s) && decide (s ≤ 1000000)

theorem valid_any (v : Int) (w : World) : Calls Tryd.prog 11 #[.int .i64 v] w fun e w' => e = .returned (.bool (validB v)) ∧ w = w' := by
  go_enter Tryd.func11, Tryd.ntmps11
  go_wp2
  all_goals go_ret
  all_goals exact ⟨ret_bool (by unfold validB; simp; omega), rfl⟩

theorem rvalid_any (v : Int) (w : World) : Calls Tryd.prog 8 #[.int .i64 v] w fun e w' => e = .returned (.bool (validB v)) ∧ w = w' := by
  go_enter Tryd.func8, Tryd.ntmps8
  go_wp2
  all_goals go_ret
  all_goals exact ⟨ret_bool (by unfold validB; simp; omega), rfl⟩

theorem sized_any (s l : Int) (w : World) : Calls Tryd.prog 19 #[.int .i64 s, .int .i64 l] w fun e w' => e = .returned (.bool (sizedB s l)) ∧ w = w' := by
  go_enter Tryd.func19, Tryd.ntmps19
  go_wp2
  all_goals go_ret
  all_goals exact ⟨ret_bool (by unfold sizedB; simp; omega), rfl⟩

/-- the amount, or 0; the error's number -/
def vV (v : Int) : Int := if validB v then v else 0
def vE (v : Int) : Int := if validB v then 0 else 6
theorem validE_any (v : Int) (w : World) : Calls Tryd.prog 17 #[.int .i64 v] w fun e w' => e = .returned (.tuple #[.int .i64 (vV v), .int .i64 (vE v)]) ∧ w = w' := by
  by_cases h : validB v = true
  · go_enter Tryd.func17, Tryd.ntmps17
    go_wp2_with (go_at_call 11; refine (valid_any _ _).mono ?_; rintro e w' ⟨rfl, rfl⟩)
    go_ret2
    exact ⟨tuple2 (by simp [vV, h]) (by simp [vE, h]), rfl⟩
  · have h' : validB v = false := by simpa using h
    clear h
    go_enter Tryd.func17, Tryd.ntmps17
    go_wp2_with (go_at_call 11; refine (valid_any _ _).mono ?_; rintro e w' ⟨rfl, rfl⟩)
    go_ret2
    exact ⟨tuple2 (by simp [vV, h']) (by simp [vE, h']), rfl⟩

theorem mul_bound (a b c : Int) (ha : 0 ≤ a) (hb : 0 ≤ b) (hc : 1 ≤ c) (m : Int) (h : a * b ≤ m) : 0 ≤ a * b ∧ 0 ≤ a * b / c ∧ a * b / c ≤ m ∧ 0 ≤ a * b % c ∧ a * b % c < c := by
  have h0 : 0 ≤ a * b := Int.mul_nonneg ha hb
  exact ⟨h0, Int.ediv_nonneg h0 (by omega), Int.le_trans (Int.ediv_le_self c h0) h, Int.emod_nonneg _ (by omega), Int.emod_lt_of_pos _ (by omega)⟩

theorem share_law (a b c : Int) (hc : 1 ≤ c) : a / c * b + a % c * b / c = a * b / c ∧ a % c * b % c = a * b % c := by
  have h : a * b = a % c * b + c * (a / c * b) := by
    have := Int.mul_ediv_add_emod a c
    conv => lhs; rw [← this]
    rw [Int.add_mul, Int.mul_assoc]; omega
  rw [h]
  refine ⟨?_, ?_⟩
  · rw [Int.add_mul_ediv_left _ _ (by omega)]; omega
  · rw [Int.add_mul_emod_self_left]

theorem share_any (a b c : Int) (w : World) (ha : 0 ≤ a) (ha' : a ≤ 2100000000000000) (hb : 0 ≤ b) (hb' : b ≤ 1000000) (hc : 1 ≤ c) (hc' : c ≤ 1000000)
   (hq : a * b / c ≤ 2100000000000000000) : Calls Tryd.prog 20 #[.int .i64 a, .int .i64 b, .int .i64 c] w fun e w' => e = .returned (.tuple #[.int .i64 (a * b / c), .int .i64 (a * b % c)]) ∧ Qt w w' := by
  have hl := share_law a b c hc
  have q0 : 0 ≤ a / c := Int.ediv_nonneg ha (by omega)
  have q0' : a / c ≤ 2100000000000000 := by have := Int.ediv_le_self c ha; omega
  have r0 : 0 ≤ a % c := Int.emod_nonneg _ (by omega)
  have r1 : a % c < c := Int.emod_lt_of_pos _ (by omega)
  have p0 : 0 ≤ a % c * b := Int.mul_nonneg r0 hb
  have p1 : a % c * b ≤ 1000000000000 := by
    have h2 : a % c * b ≤ 1000000 * b := Int.mul_le_mul_of_nonneg_right (by omega) hb
    omega
  have p2 : 0 ≤ a / c * b := Int.mul_nonneg q0 hb
  have p3 : 0 ≤ a % c * b / c := Int.ediv_nonneg p0 (by omega)
  have p4 : a % c * b / c ≤ 1000000000000 := by have := Int.ediv_le_self c p0; omega
  have p5 : a / c * b ≤ 2100000000000000000 := by omega
  have HL := Lib.hid hl; clear hl hq
  go_enter Tryd.func20, Tryd.ntmps20
  go_wp2
  go_quiet (fail)
  go_wp2
  go_quiet (fail)
  go_wp2
  go_ret2
  exact ⟨tuple2 HL.out.1 HL.out.2, _, World.drewN_drewN _ _ _⟩

/-! Fee, Rate -/
def feeN (rate size : Int) : Int := if 0 < rate * size % 1000 then rate * size / 1000 + 1 else rate * size / 1000
def feeV (rate size : Int) : Int := if sizedB size 0 && validB rate then vV (feeN rate size) else 0
def feeE (rate size : Int) : Int := if sizedB size 0 then (if validB rate then vE (feeN rate size) else 6) else 1
def rateN (fee size : Int) : Int := fee * 1000 / size
def rateV (fee size : Int) : Int := if sizedB size 1 && validB fee then vV (rateN fee size) else 0
def rateE (fee size : Int) : Int := if sizedB size 1 then (if validB fee then vE (rateN fee size) else 6) else 1
theorem sizedB_true {s l : Int} (h : sizedB s l = true) : l ≤ s ∧ s ≤ 1000000 := by unfold sizedB at h; simp at h; exact h
theorem sizedB_false {s l : Int} (h : sizedB s l = false) : s < l ∨ 1000000 < s := by unfold sizedB at h; simp at h; omega

theorem fee_bound {rate size : Int} (hs : sizedB size 0 = true) (hv : validB rate = true) : 0 ≤ rate ∧ rate ≤ 2100000000000000 ∧ 0 ≤ size ∧ size ≤ 1000000 ∧ 0 ≤ rate * size / 1000 ∧ rate * size / 1000 ≤ 2100000000000000000 := by
  have h1 := sizedB_true hs
  have h2 := validB_of hv
  have h3 : rate * size ≤ 2100000000000000 * size := Int.mul_le_mul_of_nonneg_right h2.2 h1.1
  have h4 : 0 ≤ rate * size := Int.mul_nonneg h2.1 h1.1
  omega
theorem rate_bound {fee size : Int} (hs : sizedB size 1 = true) (hv : validB fee = true) : 0 ≤ fee ∧ fee ≤ 2100000000000000 ∧ 1 ≤ size ∧ size ≤ 1000000 ∧ 0 ≤ fee * 1000 / size ∧ fee * 1000 / size ≤ 2100000000000000000 := by
  have h1 := sizedB_true hs
  have h2 := validB_of hv
  have h4 : 0 ≤ fee * 1000 := by omega
  have h5 := Int.ediv_le_self size h4
  have h6 := Int.ediv_nonneg h4 (show 0 ≤ size by omega)
  omega

theorem fee_any (rate size : Int) (w : World) : Calls Tryd.prog 10 #[.int .i64 rate, .int .i64 size] w fun e w' => e = .returned (.tuple #[.int .i64 (feeV rate size), .int .i64 (feeE rate size)]) ∧ Qt w w' := by
  by_cases hs : sizedB size 0 = true
  · by_cases hv : validB rate = true
    · obtain ⟨a0, a1, s0, s1, q0, q1⟩ := fee_bound hs hv
      by_cases hr : 0 < rate * size % 1000
      · have hN : feeN rate size = rate * size / 1000 + 1 := by unfold feeN; rw [if_pos hr]
        have HN := Lib.hid hN; clear hN
        go_enter Tryd.func10, Tryd.ntmps10
        go_wp2_with (first | (go_at_call 19; refine (sized_any _ _ _).mono ?_; rintro e w' ⟨rfl, rfl⟩) | (go_at_call 11; refine (valid_any _ _).mono ?_; rintro e w' ⟨rfl, rfl⟩) | (go_at_call 20; refine (share_any _ _ _ _ a0 a1 s0 s1 (by omega) (by omega) q1).mono ?_; rintro e w' ⟨rfl, n, rfl⟩) | (go_at_call 17; refine (validE_any _ _).mono ?_; rintro e w' ⟨rfl, rfl⟩))
        go_ret2
        exact ⟨tuple2 (by rw [feeV, hs, hv, HN.out]; rfl) (by rw [feeE, hs, hv, HN.out]; rfl), _, rfl⟩
      · have hN : feeN rate size = rate * size / 1000 := by unfold feeN; rw [if_neg hr]
        have HN := Lib.hid hN; clear hN
        go_enter Tryd.func10, Tryd.ntmps10
        go_wp2_with (first | (go_at_call 19; refine (sized_any _ _ _).mono ?_; rintro e w' ⟨rfl, rfl⟩) | (go_at_call 11; refine (valid_any _ _).mono ?_; rintro e w' ⟨rfl, rfl⟩) | (go_at_call 20; refine (share_any _ _ _ _ a0 a1 s0 s1 (by omega) (by omega) q1).mono ?_; rintro e w' ⟨rfl, n, rfl⟩) | (go_at_call 17; refine (validE_any _ _).mono ?_; rintro e w' ⟨rfl, rfl⟩))
        go_ret2
        exact ⟨tuple2 (by rw [feeV, hs, hv, HN.out]; rfl) (by rw [feeE, hs, hv, HN.out]; rfl), _, rfl⟩
    · have hv' : validB rate = false := by simpa using hv
      clear hv
      go_enter Tryd.func10, Tryd.ntmps10
      go_wp2_with (first | (go_at_call 19; refine (sized_any _ _ _).mono ?_; rintro e w' ⟨rfl, rfl⟩) | (go_at_call 11; refine (valid_any _ _).mono ?_; rintro e w' ⟨rfl, rfl⟩))
      go_ret2
      exact ⟨tuple2 (by rw [feeV, hs, hv']; rfl) (by rw [feeE, hs, hv']; rfl), Qt.refl _⟩
  · have hs' : sizedB size 0 = false := by simpa using hs
    clear hs
    go_enter Tryd.func10, Tryd.ntmps10
    go_wp2_with (first | (go_at_call 19; refine (sized_any _ _ _).mono ?_; rintro e w' ⟨rfl, rfl⟩))
    go_ret2
    exact ⟨tuple2 (by rw [feeV, hs']; rfl) (by rw [feeE, hs']; rfl), Qt.refl _⟩

end Go.Proofs.YtigbngdeffbhnaaDoor
