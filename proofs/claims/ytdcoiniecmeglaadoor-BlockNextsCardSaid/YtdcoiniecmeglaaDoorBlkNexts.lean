/- BlockNexts: the bits that follow, and the new coins of a height. -/
import Derived.Test.YtdcoiniecmeglaaDoorNext
import Derived.Test.YtdcoiniecmeglaaDoorNumSub
namespace Go.Proofs.YtdcoiniecmeglaaDoor
set_option linter.unusedVariables false
set_option linter.unusedSimpArgs false
open Go Go.RowKit

theorem nextRes_range (x s : Int) : 0 ≤ nextRes x s ∧ nextRes x s < 4294967296 := by
  unfold nextRes
  split
  · exact bitsOf_range (toB_bytes _ _) (toB_length _ _)
  · omega
theorem nextRes_good (x s : Int) : tgtErr (nextRes x s) = 0 := by
  have key : (target (nextRes x s)).isSome = true := by
    unfold nextRes
    split
    · obtain ⟨h1, h2⟩ := nextV_range x s
      have hlim := limit_small
      have hb : be (toB 32 (nextV x s)) = nextV x s := by rw [be_toB', Int.emod_eq_of_lt (by omega) (by unfold N256; omega)]
      exact target_bits (toB_bytes _ _) (toB_length _ _) (by omega) (by omega)
    · decide +kernel
  unfold tgtErr
  rw [if_pos key]
set_option maxRecDepth 100000 in
set_option maxHeartbeats 4000000 in
theorem nexts_any (x s h : Int) (h0 : 0 ≤ x) (h1 : x < 4294967296) (s0 : -9223372036854775808 ≤ s) (s1 : s < 9223372036854775808) (t0 : -9223372036854775808 ≤ h) (t1 : h < 9223372036854775808) (w : World) :
    Calls Tryd.prog 5 #[.int .u32 x, .int .i64 s, .int .i64 h] w fun e w' => e = .returned (.bool true) ∧ Keeps w w' := by
  have hn := next_any x s h0 h1 s0 s1
  have hr := rnext_any x s h0 h1
  obtain ⟨r0, r1⟩ := nextRes_range x s
  have htg := target_any (nextRes x s) r0 r1
  rw [nextRes_good] at htg
  have hl9 := tgtRes_length (nextRes x s)
  generalize tgtRes (nextRes x s) = TT at *
  generalize nextRes x s = RES at *
  obtain ⟨H, hH, u0, u1⟩ : ∃ H : Int, ((1000000 < h ∧ H = 1000000) ∨ (¬ 1000000 < h ∧ H = h)) ∧ -9223372036854775808 ≤ H ∧ H < 9223372036854775808 := by
    by_cases hh : 1000000 < h
    · exact ⟨1000000, .inl ⟨hh, rfl⟩, by omega, by omega⟩
    · exact ⟨h, .inr ⟨hh, rfl⟩, by omega, by omega⟩
  have hsu := subsidy_any H u0 u1
  have hrs := rsubsidy_any H u0 u1
  generalize subsidy H = SB at *
  have HN := Lib.hid hn; have HR := Lib.hid hr; have HT := Lib.hid htg; have HSU := Lib.hid hsu; have HRS := Lib.hid hrs
  clear hn hr htg hsu hrs r0 r1 u0 u1
  rcases hH with ⟨hc, rfl⟩ | ⟨hc, rfl⟩ <;> (
    go_enter Tryd.func5, Tryd.ntmps5
    go_wp2_with (first | (go_at_call 6; refine (awake_any _).mono ?_; rintro e W1 ⟨rfl, hk1⟩; have HK1 := Lib.hid hk1; clear hk1) | (go_at_call 17; refine (HN.out _).mono ?_; rintro e W2 ⟨rfl, hk2⟩; have HK2 := Lib.hid hk2; clear hk2) | (go_at_call 11; refine (HT.out _).mono ?_; rintro e W3 ⟨rfl, hk3⟩; have HK3 := Lib.hid hk3; clear hk3) | (go_at_call 18; refine (HR.out _).mono ?_; rintro e W4 ⟨rfl, hk4⟩; have HK4 := Lib.hid hk4; clear hk4) | (go_at_call 19; refine (HSU.out _).mono ?_; rintro e W5 ⟨rfl, rfl⟩) | (go_at_call 20; refine (HRS.out _).mono ?_; rintro e W6 ⟨rfl, rfl⟩) | (refine wpList_store_row rfl 23 (.tmp 8) (.tmp 20) rfl _ 0 rfl (List.replicate 32 (Value.int .u8 0)) (TT.map (Value.int .u8)) rfl (Row.new _ _ _ rfl) (by simp [hl9]) (sz_n32 TT hl9) (int_oneCell _) ?_; intro w8 hr8 hc8; have HC8 := Lib.hid hc8; clear hr8 hc8))
    go_ret
    exact ⟨rfl, (laid_keeps ((HK1.out.trans HK2.out).trans HK3.out) HC8.out).trans HK4.out⟩)
end Go.Proofs.YtdcoiniecmeglaaDoor
