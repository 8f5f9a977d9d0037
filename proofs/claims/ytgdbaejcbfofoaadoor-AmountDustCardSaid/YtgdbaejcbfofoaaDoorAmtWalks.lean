/- The walks of AmountFees, AmountDust, AmountBack: each returns true and leaves all that was there. -/
import Derived.Test.YtgdbaejcbfofoaaDoorAmtAwake
namespace Go.Proofs.YtgdbaejcbfofoaaDoor
open Go Go.RowKit

theorem fees_walk (rate size : Int) (w : World) (h : PowTab w) : Calls Tryd.prog 4 #[.int .i64 rate, .int .i64 size] w fun e w' => e = .returned (.bool true) ∧ Keeps w w' := by
  go_enter Tryd.func4, Tryd.ntmps4
  go_wp2_with (first | (go_at_call 7; refine (awake_any _ h).mono ?_; rintro e w1 ⟨rfl, hk⟩) | (go_at_call 11; refine (fee_any _ _ _).mono ?_; rintro e w' ⟨rfl, n, rfl⟩) | (go_at_call 12; refine (rfee_any _ _ _).mono ?_; rintro e w' ⟨rfl, rfl⟩) | (go_at_call 13; refine (rate_any _ _ _).mono ?_; rintro e w' ⟨rfl, n, rfl⟩) | (go_at_call 14; refine (rrate_any _ _ _).mono ?_; rintro e w' ⟨rfl, rfl⟩))
  go_ret
  exact ⟨rfl, hk.trans (Qt.keeps ⟨_, rfl⟩)⟩

theorem dust_walk (a b : Int) (w : World) (h : PowTab w) : Calls Tryd.prog 3 #[.int .i64 a, .int .i64 b] w fun e w' => e = .returned (.bool true) ∧ Keeps w w' := by
  have hv : validB (dustV a) = true := by unfold dustV; split <;> exact validB_true (by omega) (by omega)
  have hle : a ≤ b → dustV a ≤ dustV b := by intro h; unfold dustV; split <;> split <;> omega
  by_cases hab : b < a
  · go_enter Tryd.func3, Tryd.ntmps3
    go_wp2_with (first | (go_at_call 7; refine (awake_any _ h).mono ?_; rintro e w1 ⟨rfl, hk⟩) | (go_at_call 8; refine (dust_any _ _).mono ?_; rintro e w' ⟨rfl, rfl⟩) | (go_at_call 9; refine (rdust_any _ _).mono ?_; rintro e w' ⟨rfl, rfl⟩) | (go_at_call 10; refine (valid_any _ _).mono ?_; rintro e w' ⟨rfl, rfl⟩))
    go_ret
    exact ⟨rfl, hk⟩
  · have hle' := hle (by omega)
    clear hle
    go_enter Tryd.func3, Tryd.ntmps3
    go_wp2_with (first | (go_at_call 7; refine (awake_any _ h).mono ?_; rintro e w1 ⟨rfl, hk⟩) | (go_at_call 8; refine (dust_any _ _).mono ?_; rintro e w' ⟨rfl, rfl⟩) | (go_at_call 9; refine (rdust_any _ _).mono ?_; rintro e w' ⟨rfl, rfl⟩) | (go_at_call 10; refine (valid_any _ _).mono ?_; rintro e w' ⟨rfl, rfl⟩))
    go_ret
    exact ⟨rfl, hk⟩
end Go.Proofs.YtgdbaejcbfofoaaDoor
