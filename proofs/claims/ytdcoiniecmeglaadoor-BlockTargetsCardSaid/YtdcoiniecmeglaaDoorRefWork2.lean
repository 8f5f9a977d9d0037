/- The reference's Work is 2^256 by the target and 1. -/
import Derived.Test.YtdcoiniecmeglaaDoorRefWork
namespace Go.Proofs.YtdcoiniecmeglaaDoor
set_option linter.unusedVariables false
set_option linter.unusedSimpArgs false
open Go Go.RowKit

theorem div_step_yes {a b : Int} (hb : 0 < b) (i : Nat) (h : b ≤ dnext a b i) : drest a b i = dnext a b i - b ∧ dquo a b i = 2 * dquo a b (i + 1) + 1 := by
  have hs := div_step (a := a) hb i
  rwa [if_pos (show b ≤ 2 * drest a b (i + 1) + bit a i from h)] at hs
theorem div_step_no {a b : Int} (hb : 0 < b) (i : Nat) (h : ¬ b ≤ dnext a b i) : drest a b i = dnext a b i ∧ dquo a b i = 2 * dquo a b (i + 1) := by
  have hs := div_step (a := a) hb i
  rwa [if_neg (show ¬ b ≤ 2 * drest a b (i + 1) + bit a i from h)] at hs
theorem be_small {v : Int} (h0 : 0 ≤ v) (h1 : v < N256) : be (toB 32 v) = v := by rw [be_toB', Int.emod_eq_of_lt h0 h1]
set_option maxRecDepth 100000 in
set_option maxHeartbeats 4000000 in
theorem rwork_any (x : Int) (h0 : 0 ≤ x) (h1 : x < 4294967296) (w : World) :
    Calls Tryd.prog 16 #[.int .u32 x] w fun e w' => e = .returned (.agg ((workRes x).map (Value.int .u8)).toArray) ∧ Keeps w w' := by
  have htg := rtarget_any x h0 h1
  have hl9 := tgtRes_length x
  have hbt := tgtRes_bytes x
  have hz9 := zero32_length
  by_cases hs : (target x).isSome = true
  · have hW : workRes x = toB 32 (N256 / (be (tgtRes x) + 1)) := if_pos hs
    rw [hs] at htg
    have hT0 : 0 ≤ be (tgtRes x) := (be_range hbt).1
    have hT1 : be (tgtRes x) < 57896044618658097711785492504343953926634992332820282019728792003956564819968 := by
      obtain ⟨_, _, _, _, h2, _⟩ := target_some hs
      have := limit_small
      omega
    rw [hW]
    clear hs hW
    generalize tgtRes x = TT at *
    have hD0 : 0 < be TT + 1 := by omega
    have hD1 : be TT + 1 < N256 := by unfold N256; omega
    have hone : be (toB 32 1) = 1 := be_small (by decide) (by decide)
    have hsum : ∀ W, Calls Tryd.prog 10 #[.agg (TT.map (Value.int .u8)).toArray, .agg ((toB 32 1).map (Value.int .u8)).toArray] W fun e w' => e = .returned (.agg ((toB 32 (be TT + 1)).map (Value.int .u8)).toArray) ∧ Keeps W w' := fun W => by
      have := sum_any TT (toB 32 1) hbt (toB_bytes _ _) hl9 (toB_length _ _) W
      unfold addB at this
      rw [hone, show (be TT + 1) / 256 ^ 32 = 0 from Int.ediv_eq_zero_of_lt (by omega) hD1, if_neg (by decide)] at this
      exact this
    clear hone
    generalize be TT + 1 = D at *
    clear hT0 hT1
    have hDD : be (toB 32 D) = D := be_small (Int.le_of_lt hD0) hD1
    have hR : ∀ n, be (toB 32 (drest N256 D n)) = drest N256 D n := fun n => be_small (drest_range hD0 n).1 (Int.lt_trans (drest_range hD0 n).2 hD1)
    exact rwork_walk x TT (toB 32 D) (toB 32 (N256 / D)) (fun n => toB 32 (drest N256 D n)) (fun i => toB 32 (dnext N256 D i)) (fun n => toB 32 (dquo N256 D n)) (fun i => toB 32 (2 * dquo N256 D (i + 1)))
      (fun i => decide (N256 ≤ dnext N256 D i)) (fun i => decide (dnext N256 D i % N256 < D)) (fun i => D ≤ dnext N256 D i)
      hl9 (toB_length _ _) (toB_length _ _) (Lib.hid (fun _ => toB_length _ _)) (Lib.hid (fun _ => toB_length _ _)) (Lib.hid (fun _ => toB_length _ _)) (Lib.hid (fun _ => toB_length _ _))
      (Lib.hid htg) (Lib.hid hsum)
      (Lib.hid (fun i hi W => by
        have := double_any (toB 32 (drest N256 D (i + 1))) (toB_bytes _ _) (toB_length _ _) (if i = 256 then 1 else 0) (by split <;> decide) W
        rw [hR, ← n256_bit i hi] at this
        rw [← n256_bit i hi]
        exact this))
      (Lib.hid (fun i W => by
        refine (double_any (toB 32 (dquo N256 D (i + 1))) (toB_bytes _ _) (toB_length _ _) 0 (by decide) W).mono ?_
        rintro e w' ⟨rfl, hk⟩
        rw [be_toB', show toB 32 (2 * (dquo N256 D (i + 1) % N256) + 0) = toB 32 (2 * dquo N256 D (i + 1)) from toB_cong (by rw [Int.add_zero]; unfold N256; omega)]
        exact ⟨_, rfl, hk⟩))
      (Lib.hid (fun i W => by
        have := less_any (toB 32 (dnext N256 D i)) (toB 32 D) (toB_bytes _ _) (toB_bytes _ _) (toB_length _ _) (toB_length _ _) W
        rw [be_toB', hDD] at this
        exact this))
      (Lib.hid (fun i hi W => by
        have := minus_any (toB 32 (dnext N256 D i)) (toB 32 D) (toB_bytes _ _) (toB_bytes _ _) (toB_length _ _) (toB_length _ _) W
        rw [be_toB', hDD, show toB 32 (dnext N256 D i % N256 - D) = toB 32 (drest N256 D i) from toB_cong (by rw [(div_step_yes hD0 i hi).1]; unfold N256; omega)] at this
        exact this))
      (Lib.hid (fun i => by
        have := rless hD0 hD1 i
        show (decide (N256 ≤ dnext N256 D i) = true ∨ decide (dnext N256 D i % N256 < D) = false) ↔ D ≤ dnext N256 D i
        rw [← this]
        simp))
      (Lib.hid (fun i hi => by
        obtain ⟨i1, i2⟩ := toB_inc (2 * dquo N256 D (i + 1)) (by omega)
        refine ⟨?_, (Bytes.get (toB_bytes 32 _) 31).1, i2⟩
        show _ = toB 32 (dquo N256 D i)
        rw [(div_step_yes hD0 i hi).2]
        exact i1))
      (Lib.hid (fun i hi => ⟨congrArg (toB 32) (div_step_no hD0 i hi).1.symm, congrArg (toB 32) (div_step_no hD0 i hi).2.symm⟩))
      (Lib.hid (by show toB 32 (drest N256 D 257) = zero32; rw [(rtop (b := D)).1]; decide +kernel)) (Lib.hid (by show toB 32 (dquo N256 D 257) = zero32; rw [(rtop (b := D)).2]; decide +kernel)) (Lib.hid (by show toB 32 (dquo N256 D 0) = _; rw [(drest_zero N256 D).2])) w
  · have hW : workRes x = zero32 := if_neg hs
    have hs2 : (target x).isSome = false := by simpa using hs
    rw [hs2] at htg
    rw [hW]
    generalize tgtRes x = R at *
    have HTG := Lib.hid htg
    clear htg hW hs hs2
    go_enter Tryd.func16, Tryd.ntmps16
    go_upto_region 1 with (fail)
    refine wp_rows1 (fun W hk hr hs => ?_)
    obtain ⟨p, hp⟩ : ∃ p, p = w.heap.size := ⟨_, rfl⟩
    rw [← hp] at hr hs ⊢
    have hkp : w.heap.size ≤ p := by omega
    have HZ := Lib.hid (show Row W p 0 (zero32.map (Value.int .u8)) from hr); have HK := Lib.hid hk
    clear hp hr hk hs
    go_upto_region 2 with (first | (go_at_call 12; refine (HTG.out _).mono ?_; rintro e W5 ⟨rfl, hk5⟩; have HK5 := Lib.hid hk5; clear hk5) | (refine wpList_store_row rfl 22 (.tmp 3) (.tmp 15) rfl _ 0 rfl (List.replicate 32 (Value.int .u8 0)) (R.map (Value.int .u8)) rfl (Row.new _ _ _ rfl) (by simp [hl9]) (sz_a32 R hl9) (int_oneCell _) ?_; intro w8 hr8 hc8; have H8 := Lib.hid hr8; have HC8 := Lib.hid hc8; clear hr8 hc8))
    have HK8 := Lib.hid (laid_keeps (HK.out.trans HK5.out) HC8.out)
    have HZ8 := Lib.hid (HZ.out.keeps (laid_keeps HK5.out HC8.out))
    generalize W5.heap.size = g at *
    clear HC8 HK5 HK HZ
    go_upto_region 3 with (fail)
    refine wp_rows1 (fun w9 hk9 hr9 _ => ?_)
    obtain ⟨g5, hg5⟩ : ∃ g, g = w8.heap.size := ⟨_, rfl⟩
    rw [← hg5] at hr9 ⊢
    have H5 := Lib.hid (show Row w9 g5 0 (zero32.map (Value.int .u8)) from hr9)
    have HZ9 := Lib.hid (HZ8.out.keeps hk9); have HK9 := Lib.hid (HK8.out.trans hk9)
    clear hg5 hr9 hk9
    go_wp2_with (first | (refine wpList_load_at rfl 22 (.tmp 5) rfl g5 0 rfl (zero32.map (Value.int .u8)) _ H5.out Tryd.underlying22 rfl (sz_a32 zero32 hz9) ?_) | (refine wpList_store_row rfl 22 (.tmp 2) (.tmp 19) rfl p 0 rfl _ (zero32.map (Value.int .u8)) rfl HZ9.out (by simp) (sz_a32 zero32 hz9) (int_oneCell _) ?_; intro w10 hr10 hc10; have H10 := Lib.hid hr10; have HC10 := Lib.hid hc10; clear hr10 hc10))
    exact bodyPost_ret (v := .agg (zero32.map (Value.int .u8)).toArray) (results_cell_at (p := 2) (ty := 22) rfl _ _ p 0 _ _ rfl H10.out Tryd.underlying22 rfl (sz_a32 zero32 hz9)) rfl ⟨rfl, keeps_chg HK9.out HC10.out hkp⟩
end Go.Proofs.YtdcoiniecmeglaaDoor
