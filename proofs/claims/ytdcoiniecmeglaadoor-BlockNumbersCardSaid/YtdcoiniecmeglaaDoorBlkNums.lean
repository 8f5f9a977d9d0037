/- strongboxlaw10.BlockNumbers: it says yes, whatever the two numbers. -/
import Derived.Test.YtdcoiniecmeglaaDoorBlkAwake
namespace Go.Proofs.YtdcoiniecmeglaaDoor
set_option linter.unusedVariables false
set_option linter.unusedSimpArgs false
open Go Go.RowKit

theorem addB_comm (a b : List Int) : addB b a = addB a b := by unfold addB; rw [Int.add_comm (be b) (be a)]
set_option maxRecDepth 100000 in
set_option maxHeartbeats 4000000 in
theorem numbers_any (a b : List Int) (ha : Bytes a) (hb : Bytes b) (hla : a.length = 32) (hlb : b.length = 32) (w : World) :
    Calls Tryd.prog 3 #[.agg (a.map (Value.int .u8)).toArray, .agg (b.map (Value.int .u8)).toArray] w fun e w' => e = .returned (.bool true) ∧ Keeps w w' := by
  have hS1 := badd_any a b ha hb hla hlb
  have hS2 := badd_any b a hb ha hlb hla
  have hS3 := sum_any a b ha hb hla hlb
  rw [addB_comm a b] at hS2
  have hC := bcompare_any a b ha hb hla hlb
  have hL1 := less_any a b ha hb hla hlb
  have hL2 := less_any b a hb ha hlb hla
  have hE := fun W => equal_bytes W 23 32 Tryd.underlying23 (addB a b) (addB a b) (addB_bytes a b) (addB_bytes a b) (addB_length a b) (addB_length a b)
  simp only [decide_true] at hE
  have hz1 := sz_n32 a hla
  have hz2 := sz_n32 b hlb
  obtain ⟨L1, hl1⟩ : ∃ x, x = decide (be a < be b) := ⟨_, rfl⟩
  obtain ⟨L2, hl2⟩ : ∃ x, x = decide (be b < be a) := ⟨_, rfl⟩
  obtain ⟨CZ, hcz⟩ : ∃ x, x = cmpZ (be a) (be b) := ⟨_, rfl⟩
  have hw : (L1 = true ∧ L2 = false ∧ CZ = -1) ∨ (L1 = false ∧ L2 = true ∧ CZ = 1) ∨ (L1 = false ∧ L2 = false ∧ CZ = 0) := by
    subst hl1 hl2 hcz
    unfold cmpZ
    by_cases h1 : be a < be b
    · exact .inl ⟨decide_eq_true h1, decide_eq_false (by omega), if_pos h1⟩
    · by_cases h2 : be b < be a
      · exact .inr (.inl ⟨decide_eq_false h1, decide_eq_true h2, by rw [if_neg h1, if_pos h2]⟩)
      · exact .inr (.inr ⟨decide_eq_false h1, decide_eq_false h2, by rw [if_neg h1, if_neg h2]⟩)
  rw [← hl1] at hL1
  rw [← hl2] at hL2
  rw [← hcz] at hC
  clear hl1 hl2 hcz
  generalize addB a b = S at *
  generalize a.map (Value.int .u8) = A at *
  generalize b.map (Value.int .u8) = B at *
  generalize (S.map (Value.int .u8)).toArray = SS at *
  have HS1 := Lib.hid hS1; have HS2 := Lib.hid hS2; have HS3 := Lib.hid hS3; have HC := Lib.hid hC; have HL1 := Lib.hid hL1; have HL2 := Lib.hid hL2; have HE := Lib.hid hE
  have HS12 : Hid (∀ (X Y : Array Value) (W : World), (X = A.toArray ∧ Y = B.toArray) ∨ (X = B.toArray ∧ Y = A.toArray) → Calls Tryd.prog 9 #[.agg X, .agg Y] W fun e w' => e = .returned (.agg SS) ∧ Keeps W w') := Lib.hid (fun X Y W h => by
    rcases h with ⟨rfl, rfl⟩ | ⟨rfl, rfl⟩
    · exact hS1 W
    · exact hS2 W)
  clear HS1 HS2
  clear hS1 hS2 hS3 hC hL1 hL2 hE ha hb hla hlb
  have HAW := Lib.hid awake_any
  go_enter Tryd.func3, Tryd.ntmps3
  go_upto_region 1 with (fail)
  refine wp_rows2 (fun W hk hr2 hr3 hs => ?_)
  obtain ⟨p, hp⟩ : ∃ p, p = w.heap.size := ⟨_, rfl⟩
  rw [← hp] at hr2 hr3 hs ⊢
  have HR2 := Lib.hid (show Row W p 0 A from hr2); have HR3 := Lib.hid (show Row W (p + 1) 0 B from hr3); have HK := Lib.hid hk
  clear hs hr2 hr3 hk hp
  go_upto_region 4 with (go_at_call 6; refine (HAW.out _).mono ?_; rintro e W2 ⟨rfl, hk2⟩; have HK2 := Lib.hid hk2; clear hk2)
  have HQ2 := Lib.hid (HR2.out.keeps HK2.out); have HQ3 := Lib.hid (HR3.out.keeps HK2.out); have HKK := Lib.hid (HK.out.trans HK2.out)
  clear HR2 HR3 HK HK2
  rcases hw with ⟨rfl, rfl, rfl⟩ | ⟨rfl, rfl, rfl⟩ | ⟨rfl, rfl, rfl⟩
  · go_upto_region 6 with (first | (refine wpList_load_at rfl 23 (.tmp 2) rfl p 0 rfl A _ HQ2.out Tryd.underlying23 rfl hz1 ?_) | (refine wpList_load_at rfl 23 (.tmp 3) rfl (p + 1) 0 rfl B _ HQ3.out Tryd.underlying23 rfl hz2 ?_) | (go_at_call 7; refine (HL1.out _).mono ?_; rintro e W3 ⟨rfl, hk3⟩; have HK3 := Lib.hid hk3; clear hk3))
    have HP2 := Lib.hid (HQ2.out.keeps HK3.out); have HP3 := Lib.hid (HQ3.out.keeps HK3.out); have HKL := Lib.hid (HKK.out.trans HK3.out)
    clear HQ2 HQ3 HKK HK3 HL1
    go_upto_region 8 with (first | (refine wpList_load_at rfl 23 (.tmp 2) rfl p 0 rfl A _ HP2.out Tryd.underlying23 rfl hz1 ?_) | (refine wpList_load_at rfl 23 (.tmp 3) rfl (p + 1) 0 rfl B _ HP3.out Tryd.underlying23 rfl hz2 ?_) | (go_at_call 7; refine (HL2.out _).mono ?_; rintro e W4 ⟨rfl, hk4⟩; have HK4 := Lib.hid hk4; clear hk4))
    have HR2 := Lib.hid (HP2.out.keeps HK4.out); have HR3 := Lib.hid (HP3.out.keeps HK4.out); have HKM := Lib.hid (HKL.out.trans HK4.out)
    clear HP2 HP3 HKL HK4 HL2
    refine wp_region_quiet_below (by kernel_rfl) (by kernel_rfl) ?_
    repeat (first | go_big_quiet_skip | (refine BigFrame.wpQuiet_want (by kernel_rfl) (fun K hK => quiet_load_row 23 (.tmp 2) (by with_reducible rfl) p 0 rfl A _ (HR2.out).cls Tryd.underlying23 rfl (hz1) (hK _ ?_)); simp only [Act.put, List.setIfInBounds_toArray, List.set_cons_zero, List.set_cons_succ]) | (refine BigFrame.wpQuiet_want (by kernel_rfl) (fun K hK => quiet_load_row 23 (.tmp 3) (by with_reducible rfl) (p + 1) 0 rfl B _ (HR3.out).cls Tryd.underlying23 rfl (hz2) (hK _ ?_)); simp only [Act.put, List.setIfInBounds_toArray, List.set_cons_zero, List.set_cons_succ]) | (refine BigFrame.wpQuiet_want (by kernel_rfl) (fun K hK => quiet_eql 23 23 (.tmp 22) (.tmp 25) (by with_reducible rfl) _ _ rfl rfl _ (HE.out) (by kernel_rfl) (hK _ ?_)); simp only [Act.put, List.setIfInBounds_toArray, List.set_cons_zero, List.set_cons_succ]) | (refine BigFrame.wpQuiet_want (by kernel_rfl) (fun K hK => quiet_eql 23 23 (.tmp 31) (.tmp 34) (by with_reducible rfl) _ _ rfl rfl _ (HE.out) (by kernel_rfl) (hK _ ?_)); simp only [Act.put, List.setIfInBounds_toArray, List.set_cons_zero, List.set_cons_succ]) | go_big_quiet_step (first | (go_at_call 8; exact rgB (HC.out _)) | (go_at_call 10; exact rgB (HS3.out _)) | (go_at_call 9; exact rgB (HS12.out _ _ _ (by first | exact .inl ⟨rfl, rfl⟩ | exact .inr ⟨rfl, rfl⟩)))) | quiet_step (first | (go_at_call 8; exact rgB (HC.out _)) | (go_at_call 10; exact rgB (HS3.out _)) | (go_at_call 9; exact rgB (HS12.out _ _ _ (by first | exact .inl ⟨rfl, rfl⟩ | exact .inr ⟨rfl, rfl⟩)))))
    refine wpQuiet_nil ?_
    intro _ hw'
    obtain ⟨⟨dq, osq⟩, hw''⟩ := hw'
    subst hw''
    have hkq := below_regrown W4 dq osq
    generalize Go.Sort.grow (redrawn W4 dq) osq = wq at *
    go_wp2
    go_ret
    exact ⟨rfl, HKM.out.trans hkq⟩
  · go_upto_region 6 with (first | (refine wpList_load_at rfl 23 (.tmp 2) rfl p 0 rfl A _ HQ2.out Tryd.underlying23 rfl hz1 ?_) | (refine wpList_load_at rfl 23 (.tmp 3) rfl (p + 1) 0 rfl B _ HQ3.out Tryd.underlying23 rfl hz2 ?_) | (go_at_call 7; refine (HL1.out _).mono ?_; rintro e W3 ⟨rfl, hk3⟩; have HK3 := Lib.hid hk3; clear hk3))
    have HP2 := Lib.hid (HQ2.out.keeps HK3.out); have HP3 := Lib.hid (HQ3.out.keeps HK3.out); have HKL := Lib.hid (HKK.out.trans HK3.out)
    clear HQ2 HQ3 HKK HK3 HL1
    go_upto_region 8 with (first | (refine wpList_load_at rfl 23 (.tmp 2) rfl p 0 rfl A _ HP2.out Tryd.underlying23 rfl hz1 ?_) | (refine wpList_load_at rfl 23 (.tmp 3) rfl (p + 1) 0 rfl B _ HP3.out Tryd.underlying23 rfl hz2 ?_) | (go_at_call 7; refine (HL2.out _).mono ?_; rintro e W4 ⟨rfl, hk4⟩; have HK4 := Lib.hid hk4; clear hk4))
    have HR2 := Lib.hid (HP2.out.keeps HK4.out); have HR3 := Lib.hid (HP3.out.keeps HK4.out); have HKM := Lib.hid (HKL.out.trans HK4.out)
    clear HP2 HP3 HKL HK4 HL2
    refine wp_region_quiet_below (by kernel_rfl) (by kernel_rfl) ?_
    repeat (first | go_big_quiet_skip | (refine BigFrame.wpQuiet_want (by kernel_rfl) (fun K hK => quiet_load_row 23 (.tmp 2) (by with_reducible rfl) p 0 rfl A _ (HR2.out).cls Tryd.underlying23 rfl (hz1) (hK _ ?_)); simp only [Act.put, List.setIfInBounds_toArray, List.set_cons_zero, List.set_cons_succ]) | (refine BigFrame.wpQuiet_want (by kernel_rfl) (fun K hK => quiet_load_row 23 (.tmp 3) (by with_reducible rfl) (p + 1) 0 rfl B _ (HR3.out).cls Tryd.underlying23 rfl (hz2) (hK _ ?_)); simp only [Act.put, List.setIfInBounds_toArray, List.set_cons_zero, List.set_cons_succ]) | (refine BigFrame.wpQuiet_want (by kernel_rfl) (fun K hK => quiet_eql 23 23 (.tmp 22) (.tmp 25) (by with_reducible rfl) _ _ rfl rfl _ (HE.out) (by kernel_rfl) (hK _ ?_)); simp only [Act.put, List.setIfInBounds_toArray, List.set_cons_zero, List.set_cons_succ]) | (refine BigFrame.wpQuiet_want (by kernel_rfl) (fun K hK => quiet_eql 23 23 (.tmp 31) (.tmp 34) (by with_reducible rfl) _ _ rfl rfl _ (HE.out) (by kernel_rfl) (hK _ ?_)); simp only [Act.put, List.setIfInBounds_toArray, List.set_cons_zero, List.set_cons_succ]) | go_big_quiet_step (first | (go_at_call 8; exact rgB (HC.out _)) | (go_at_call 10; exact rgB (HS3.out _)) | (go_at_call 9; exact rgB (HS12.out _ _ _ (by first | exact .inl ⟨rfl, rfl⟩ | exact .inr ⟨rfl, rfl⟩)))) | quiet_step (first | (go_at_call 8; exact rgB (HC.out _)) | (go_at_call 10; exact rgB (HS3.out _)) | (go_at_call 9; exact rgB (HS12.out _ _ _ (by first | exact .inl ⟨rfl, rfl⟩ | exact .inr ⟨rfl, rfl⟩)))))
    refine wpQuiet_nil ?_
    intro _ hw'
    obtain ⟨⟨dq, osq⟩, hw''⟩ := hw'
    subst hw''
    have hkq := below_regrown W4 dq osq
    generalize Go.Sort.grow (redrawn W4 dq) osq = wq at *
    go_wp2
    go_ret
    exact ⟨rfl, HKM.out.trans hkq⟩
  · go_upto_region 6 with (first | (refine wpList_load_at rfl 23 (.tmp 2) rfl p 0 rfl A _ HQ2.out Tryd.underlying23 rfl hz1 ?_) | (refine wpList_load_at rfl 23 (.tmp 3) rfl (p + 1) 0 rfl B _ HQ3.out Tryd.underlying23 rfl hz2 ?_) | (go_at_call 7; refine (HL1.out _).mono ?_; rintro e W3 ⟨rfl, hk3⟩; have HK3 := Lib.hid hk3; clear hk3))
    have HP2 := Lib.hid (HQ2.out.keeps HK3.out); have HP3 := Lib.hid (HQ3.out.keeps HK3.out); have HKL := Lib.hid (HKK.out.trans HK3.out)
    clear HQ2 HQ3 HKK HK3 HL1
    go_upto_region 8 with (first | (refine wpList_load_at rfl 23 (.tmp 2) rfl p 0 rfl A _ HP2.out Tryd.underlying23 rfl hz1 ?_) | (refine wpList_load_at rfl 23 (.tmp 3) rfl (p + 1) 0 rfl B _ HP3.out Tryd.underlying23 rfl hz2 ?_) | (go_at_call 7; refine (HL2.out _).mono ?_; rintro e W4 ⟨rfl, hk4⟩; have HK4 := Lib.hid hk4; clear hk4))
    have HR2 := Lib.hid (HP2.out.keeps HK4.out); have HR3 := Lib.hid (HP3.out.keeps HK4.out); have HKM := Lib.hid (HKL.out.trans HK4.out)
    clear HP2 HP3 HKL HK4 HL2
    refine wp_region_quiet_below (by kernel_rfl) (by kernel_rfl) ?_
    repeat (first | go_big_quiet_skip | (refine BigFrame.wpQuiet_want (by kernel_rfl) (fun K hK => quiet_load_row 23 (.tmp 2) (by with_reducible rfl) p 0 rfl A _ (HR2.out).cls Tryd.underlying23 rfl (hz1) (hK _ ?_)); simp only [Act.put, List.setIfInBounds_toArray, List.set_cons_zero, List.set_cons_succ]) | (refine BigFrame.wpQuiet_want (by kernel_rfl) (fun K hK => quiet_load_row 23 (.tmp 3) (by with_reducible rfl) (p + 1) 0 rfl B _ (HR3.out).cls Tryd.underlying23 rfl (hz2) (hK _ ?_)); simp only [Act.put, List.setIfInBounds_toArray, List.set_cons_zero, List.set_cons_succ]) | (refine BigFrame.wpQuiet_want (by kernel_rfl) (fun K hK => quiet_eql 23 23 (.tmp 22) (.tmp 25) (by with_reducible rfl) _ _ rfl rfl _ (HE.out) (by kernel_rfl) (hK _ ?_)); simp only [Act.put, List.setIfInBounds_toArray, List.set_cons_zero, List.set_cons_succ]) | (refine BigFrame.wpQuiet_want (by kernel_rfl) (fun K hK => quiet_eql 23 23 (.tmp 31) (.tmp 34) (by with_reducible rfl) _ _ rfl rfl _ (HE.out) (by kernel_rfl) (hK _ ?_)); simp only [Act.put, List.setIfInBounds_toArray, List.set_cons_zero, List.set_cons_succ]) | go_big_quiet_step (first | (go_at_call 8; exact rgB (HC.out _)) | (go_at_call 10; exact rgB (HS3.out _)) | (go_at_call 9; exact rgB (HS12.out _ _ _ (by first | exact .inl ⟨rfl, rfl⟩ | exact .inr ⟨rfl, rfl⟩)))) | quiet_step (first | (go_at_call 8; exact rgB (HC.out _)) | (go_at_call 10; exact rgB (HS3.out _)) | (go_at_call 9; exact rgB (HS12.out _ _ _ (by first | exact .inl ⟨rfl, rfl⟩ | exact .inr ⟨rfl, rfl⟩)))))
    refine wpQuiet_nil ?_
    intro _ hw'
    obtain ⟨⟨dq, osq⟩, hw''⟩ := hw'
    subst hw''
    have hkq := below_regrown W4 dq osq
    generalize Go.Sort.grow (redrawn W4 dq) osq = wq at *
    go_wp2
    go_ret
    exact ⟨rfl, HKM.out.trans hkq⟩
end Go.Proofs.YtdcoiniecmeglaaDoor
