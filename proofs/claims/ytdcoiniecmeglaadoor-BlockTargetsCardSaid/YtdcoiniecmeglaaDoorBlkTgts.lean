/- strongboxlaw10.BlockTargets: it says yes, whatever the bits and the number. -/
import Derived.Test.YtdcoiniecmeglaaDoorBlkAwake
import Derived.Test.YtdcoiniecmeglaaDoorRefBits
import Derived.Test.YtdcoiniecmeglaaDoorRefWork2
namespace Go.Proofs.YtdcoiniecmeglaaDoor
set_option linter.unusedVariables false
set_option linter.unusedSimpArgs false
open Go Go.RowKit

theorem quiet_neq {P : Program} {C : World → Prop} {a : Act} {o : Oper} {K : Act → Prop} (t t' : TypeId) (x y : Operand) (ho : o.op = .binOp .neq t x y t') (A B : Array Value) (hx : a.eval x = .agg A) (hy : a.eval y = .agg B) (r : Bool)
    (hE : ∀ W, (Op.equalIn 10000 t (.agg A) (.agg B)).run P W = .ok r W) (hm : P.eqGuardType P.depth t = false) (hk : K (a.put o.dst (.bool (!r)))) : o.quiet P a C K :=
  ⟨.bool (!r), fun w _ => by
    have h : (execOp a.eval o).run P w = .ok (.value (.bool (!r))) w := by
      unfold execOp
      simp only [ho, hx, hy]
      simp only [Sem.run_bind, Sem.run_pure, run_eqGuard_agg _ _ _ _ _ _ _ hm, run_neq_struct, hE, Result.andThen_ok]
    unfold Oper.quietAt
    rw [h]
    exact ⟨rfl, rfl⟩, hk⟩
theorem wpList_neq {P : Program} {ops : Array Oper} {rest : List Oper} {o : Oper} {a : Act} {w : World} {Q : Exit → Act → World → Prop} (hw : Region.wanted o (yielded ops a.tmps) = true) (t t' : TypeId) (x y : Operand) (ho : o.op = .binOp .neq t x y t')
    (A B : Array Value) (hx : a.eval x = .agg A) (hy : a.eval y = .agg B) (r : Bool) (hE : ∀ W, (Op.equalIn 10000 t (.agg A) (.agg B)).run P W = .ok r W) (hm : P.eqGuardType P.depth t = false)
    (h : wpList P ops Q rest (a.put o.dst (.bool (!r))) w) : wpList P ops Q (o :: rest) a w :=
  BigFrame.wpList_want hw fun _ hK => by
    have h : (execOp a.eval o).run P w = .ok (.value (.bool (!r))) w := by
      unfold execOp
      simp only [ho, hx, hy]
      simp only [Sem.run_bind, Sem.run_pure, run_eqGuard_agg _ _ _ _ _ _ _ hm, run_neq_struct, hE, Result.andThen_ok]
    unfold Oper.wp
    rw [h]
    refine hK _ _ ?_
    assumption
theorem workRes_length (x : Int) : (workRes x).length = 32 := by
  unfold workRes
  split
  · exact toB_length _ _
  · exact zero32_length
theorem workRes_bytes (x : Int) : Bytes (workRes x) := by
  unfold workRes
  split
  · exact toB_bytes _ _
  · exact zero32_bytes
theorem be_zeros : ∀ {l : List Int}, (∀ j, j < l.length → l.getD j 0 = 0) → be l = 0
  | [], _ => rfl
  | x :: l, h => by
    have h0 : x = 0 := by simpa using h 0 (by simp)
    rw [be_cons, h0, be_zeros (l := l) (fun j hj => by simpa using h (j + 1) (by simpa using hj))]
    simp
theorem lead_zero : ∀ {l : List Int} {j : Nat}, j < lead l → l.getD j 0 = 0
  | [], _, h => by simp [lead] at h
  | x :: l, j, h => by
    unfold lead at h
    rw [List.takeWhile_cons] at h
    split at h
    · rename_i hx
      have hx : x = 0 := by simpa using hx
      cases j with
      | zero => simpa using hx
      | succ j => simpa using lead_zero (l := l) (j := j) (by unfold lead; simpa using h)
    · simp at h
theorem bitsOf_range {l : List Int} (h : Bytes l) (hl : l.length = 32) : 0 ≤ bitsOf l ∧ bitsOf l < 4294967296 := by
  have hf := lead_le l
  have hm := mant_range h (lead l)
  unfold bitsOf bitsOf'
  generalize lead l = f at *
  generalize mant l f 3 = M at *
  split <;> omega
set_option maxRecDepth 100000 in
set_option maxHeartbeats 4000000 in
theorem targets_any (x : Int) (h0 : 0 ≤ x) (h1 : x < 4294967296) (l : List Int) (hb : Bytes l) (hl : l.length = 32) (w : World) :
    Calls Tryd.prog 4 #[.int .u32 x, .agg (l.map (Value.int .u8)).toArray] w fun e w' => e = .returned (.bool true) ∧ Keeps w w' := by
  have htg := target_any x h0 h1
  have hrt := rtarget_any x h0 h1
  have hbt := bits_any l hb hl
  have hrb := rbits_any l hb hl
  have hwk := work_any x h0 h1
  have hrw := rwork_any x h0 h1
  have hbr := bitsOf_range hb hl
  have htg2 := target_any (bitsOf l) hbr.1 hbr.2
  have hcm := bcompare_any (tgtRes (bitsOf l)) l (tgtRes_bytes _) hb (tgtRes_length _) hl
  have hE1 := fun W => equal_bytes W 23 32 Tryd.underlying23 (tgtRes x) (tgtRes x) (tgtRes_bytes x) (tgtRes_bytes x) (tgtRes_length x) (tgtRes_length x)
  have hE2 := fun W => equal_bytes W 23 32 Tryd.underlying23 (workRes x) (workRes x) (workRes_bytes x) (workRes_bytes x) (workRes_length x) (workRes_length x)
  simp only [decide_true] at hE1 hE2
  have hc1 : (tgtErr x = 0 ∧ (target x).isSome = true) ∨ (tgtErr x = 3 ∧ (target x).isSome = false) := by
    unfold tgtErr
    cases (target x).isSome
    · exact .inr ⟨rfl, rfl⟩
    · exact .inl ⟨rfl, rfl⟩
  have hc2 : tgtErr (bitsOf l) = 3 ∨ (tgtErr (bitsOf l) = 0 ∧ cmpZ (be (tgtRes (bitsOf l))) (be l) = -1) ∨ (tgtErr (bitsOf l) = 0 ∧ cmpZ (be (tgtRes (bitsOf l))) (be l) = 0) := by
    unfold tgtErr tgtRes
    cases ht : target (bitsOf l) with
    | none => exact .inl rfl
    | some b =>
      have hbl := back_le hb hl ht
      by_cases h : be b < be l
      · exact .inr (.inl ⟨rfl, if_pos h⟩)
      · exact .inr (.inr ⟨rfl, by show cmpZ (be b) (be l) = 0; unfold cmpZ; rw [if_neg h, if_neg (by omega)]⟩)
  have hz1 := sz_n32 l hl
  have hl2 := tgtRes_length x
  have hl3 := tgtRes_length (bitsOf l)
  clear hbr hb h0 h1
  generalize tgtRes (bitsOf l) = T2 at *
  generalize tgtErr (bitsOf l) = E2 at *
  generalize bitsOf l = BB at *
  generalize cmpZ (be T2) (be l) = CZ at *
  generalize (workRes x).map (Value.int .u8) = WK at *
  generalize tgtRes x = T1 at *
  generalize tgtErr x = E1 at *
  generalize (target x).isSome = OK at *
  generalize l.map (Value.int .u8) = L at *
  clear hl
  have HTG := Lib.hid htg; have HRT := Lib.hid hrt; have HBT := Lib.hid hbt; have HRB := Lib.hid hrb; have HWK := Lib.hid hwk; have HRW := Lib.hid hrw; have HTG2 := Lib.hid htg2; have HCM := Lib.hid hcm; have HE1 := Lib.hid hE1; have HE2 := Lib.hid hE2
  clear htg hrt hbt hrb hwk hrw htg2 hcm hE1 hE2
  have HAW := Lib.hid awake_any
  have HC2 := Lib.hid hc2
  clear hc2
  go_enter Tryd.func4, Tryd.ntmps4
  go_upto_region 1 with (fail)
  refine wp_rows1 (fun W hk hr hs => ?_)
  obtain ⟨p, hp⟩ : ∃ p, p = w.heap.size := ⟨_, rfl⟩
  rw [← hp] at hr hs ⊢
  have HR := Lib.hid (show Row W p 0 L from hr); have HK := Lib.hid hk
  clear hs hr hk hp
  go_upto_region 3 with (go_at_call 6; refine (HAW.out _).mono ?_; rintro e W2 ⟨rfl, hk2⟩; have HK2 := Lib.hid hk2; clear hk2)
  have HQ2 := Lib.hid (HR.out.keeps HK2.out); have HKK := Lib.hid (HK.out.trans HK2.out)
  clear HR HK HK2 HAW
  go_upto_region 4 with (first | (go_at_call 11; refine (HTG.out _).mono ?_; rintro e W5 ⟨rfl, hk5⟩; have HK5 := Lib.hid hk5; clear hk5) | (refine wpList_store_row rfl 23 (.tmp 5) (.tmp 16) rfl _ 0 rfl (List.replicate 32 (Value.int .u8 0)) (T1.map (Value.int .u8)) rfl (Row.new _ _ _ rfl) (by simp [hl2]) (sz_n32 T1 hl2) (int_oneCell _) ?_; intro w8 hr8 hc8; have H8 := Lib.hid hr8; have HC8 := Lib.hid hc8; clear hr8 hc8))
  have HK8 := Lib.hid (laid_keeps (HKK.out.trans HK5.out) HC8.out)
  have HQ8 := Lib.hid (HQ2.out.keeps (laid_keeps HK5.out HC8.out))
  generalize W5.heap.size = g at *
  clear HC8 HK5 HKK HQ2 HTG
  go_upto_region 5 with (first | (go_at_call 12; refine (HRT.out _).mono ?_; rintro e W9 ⟨rfl, hk9⟩; have HK9 := Lib.hid hk9; clear hk9) | (refine wpList_store_row rfl 22 (.tmp 7) (.tmp 21) rfl _ 0 rfl (List.replicate 32 (Value.int .u8 0)) (T1.map (Value.int .u8)) rfl (Row.new _ _ _ rfl) (by simp [hl2]) (sz_a32 T1 hl2) (int_oneCell _) ?_; intro w10 hr10 hc10; have H10 := Lib.hid hr10; have HC10 := Lib.hid hc10; clear hr10 hc10))
  have HK10 := Lib.hid (laid_keeps (HK8.out.trans HK9.out) HC10.out)
  have HQ10 := Lib.hid (HQ8.out.keeps (laid_keeps HK9.out HC10.out))
  have H9 := Lib.hid (H8.out.keeps (laid_keeps HK9.out HC10.out))
  generalize W9.heap.size = g2 at *
  clear HC10 HK9 HK8 HQ8 H8 HRT
  have hz2 := sz_n32 T1 hl2
  have hz3 := sz_a32 T1 hl2
  generalize T1.map (Value.int .u8) = TT at *
  rcases hc1 with ⟨rfl, rfl⟩ | ⟨rfl, rfl⟩
  · go_upto_region 7 with (first | (refine wpList_load_at rfl 23 (.tmp 5) rfl g 0 rfl TT _ H9.out Tryd.underlying23 rfl hz2 ?_) | (refine wpList_load_at rfl 22 (.tmp 7) rfl g2 0 rfl TT _ H10.out Tryd.underlying22 rfl hz3 ?_) | (refine wpList_neq (by kernel_rfl) 23 23 (.tmp 23) (.tmp 24) rfl _ _ rfl rfl true HE1.out (by kernel_rfl) ?_))
    clear H9 H10
    refine wp_region_quiet_below (by kernel_rfl) (by kernel_rfl) ?_
    repeat (first | go_big_quiet_skip | (refine BigFrame.wpQuiet_want (by kernel_rfl) (fun K hK => quiet_load_row 23 (.tmp 3) (by with_reducible rfl) p 0 rfl L _ (HQ10.out).cls Tryd.underlying23 rfl (hz1) (hK _ ?_)); simp only [Act.put, List.setIfInBounds_toArray, List.set_cons_zero, List.set_cons_succ]) | (refine BigFrame.wpQuiet_want (by kernel_rfl) (fun K hK => quiet_neq 23 23 (.tmp 47) (.tmp 49) (by with_reducible rfl) _ _ rfl rfl _ (HE2.out) (by kernel_rfl) (hK _ ?_)); simp only [Act.put, List.setIfInBounds_toArray, List.set_cons_zero, List.set_cons_succ]) | go_big_quiet_step (first | (go_at_call 13; exact rgB (HBT.out _)) | (go_at_call 14; exact rgB (HRB.out _)) | (go_at_call 15; exact rgB (HWK.out _)) | (go_at_call 16; exact rgB (HRW.out _))) | quiet_step (first | (go_at_call 13; exact rgB (HBT.out _)) | (go_at_call 14; exact rgB (HRB.out _)) | (go_at_call 15; exact rgB (HWK.out _)) | (go_at_call 16; exact rgB (HRW.out _))))
    refine wpQuiet_nil ?_
    intro _ hw'
    obtain ⟨⟨dq, osq⟩, hw''⟩ := hw'
    subst hw''
    have hkq := below_regrown w10 dq osq
    generalize Go.Sort.grow (redrawn w10 dq) osq = wq at *
    have HK11 := Lib.hid (HK10.out.trans hkq); have HQ11 := Lib.hid (HQ10.out.keeps hkq)
    clear hkq HK10 HQ10 HWK HRW HRB
    go_upto_region 10 with (first | (refine wpList_load_at rfl 23 (.tmp 3) rfl p 0 rfl L _ HQ11.out Tryd.underlying23 rfl hz1 ?_) | (go_at_call 13; refine (HBT.out _).mono ?_; rintro e W12 ⟨rfl, hk12⟩; have HK12 := Lib.hid hk12; clear hk12) | (go_at_call 11; refine (HTG2.out _).mono ?_; rintro e W13 ⟨rfl, hk13⟩; have HK13 := Lib.hid hk13; clear hk13) | (refine wpList_store_row rfl 23 (.tmp 9) (.tmp 56) rfl _ 0 rfl (List.replicate 32 (Value.int .u8 0)) (T2.map (Value.int .u8)) rfl (Row.new _ _ _ rfl) (by simp [hl3]) (sz_n32 T2 hl3) (int_oneCell _) ?_; intro w14 hr14 hc14; have H14 := Lib.hid hr14; have HC14 := Lib.hid hc14; clear hr14 hc14))
    have HK14 := Lib.hid (laid_keeps ((HK11.out.trans HK12.out).trans HK13.out) HC14.out)
    have HQ14 := Lib.hid (HQ11.out.keeps (laid_keeps (HK12.out.trans HK13.out) HC14.out))
    generalize W13.heap.size = g3 at *
    clear HC14 HK12 HK13 HK11 HQ11 HTG2
    rcases HC2.out with rfl | ⟨rfl, rfl⟩ | ⟨rfl, rfl⟩
    · go_wp2
      go_ret
      exact ⟨rfl, HK14.out⟩
    · go_wp2_with (first | (refine wpList_load_on (by kernel_rfl) 23 (.tmp 9) rfl g3 0 rfl (T2.map (Value.int .u8)) _ H14.out Tryd.underlying23 rfl (sz_n32 T2 hl3) ?_) | (refine wpList_load_on (by kernel_rfl) 23 (.tmp 3) rfl p 0 rfl L _ HQ14.out Tryd.underlying23 rfl hz1 ?_) | (go_at_call 8; refine (HCM.out _).mono ?_; rintro e W15 ⟨rfl, hk15⟩; have HK15 := Lib.hid hk15; clear hk15))
      go_ret
      exact ⟨rfl, HK14.out.trans HK15.out⟩
    · go_wp2_with (first | (refine wpList_load_on (by kernel_rfl) 23 (.tmp 9) rfl g3 0 rfl (T2.map (Value.int .u8)) _ H14.out Tryd.underlying23 rfl (sz_n32 T2 hl3) ?_) | (refine wpList_load_on (by kernel_rfl) 23 (.tmp 3) rfl p 0 rfl L _ HQ14.out Tryd.underlying23 rfl hz1 ?_) | (go_at_call 8; refine (HCM.out _).mono ?_; rintro e W15 ⟨rfl, hk15⟩; have HK15 := Lib.hid hk15; clear hk15))
      go_ret
      exact ⟨rfl, HK14.out.trans HK15.out⟩
  · go_upto_region 7 with (first | (refine wpList_load_at rfl 23 (.tmp 5) rfl g 0 rfl TT _ H9.out Tryd.underlying23 rfl hz2 ?_) | (refine wpList_load_at rfl 22 (.tmp 7) rfl g2 0 rfl TT _ H10.out Tryd.underlying22 rfl hz3 ?_) | (refine wpList_neq (by kernel_rfl) 23 23 (.tmp 23) (.tmp 24) rfl _ _ rfl rfl true HE1.out (by kernel_rfl) ?_))
    clear H9 H10
    refine wp_region_quiet_below (by kernel_rfl) (by kernel_rfl) ?_
    repeat (first | go_big_quiet_skip | (refine BigFrame.wpQuiet_want (by kernel_rfl) (fun K hK => quiet_load_row 23 (.tmp 3) (by with_reducible rfl) p 0 rfl L _ (HQ10.out).cls Tryd.underlying23 rfl (hz1) (hK _ ?_)); simp only [Act.put, List.setIfInBounds_toArray, List.set_cons_zero, List.set_cons_succ]) | (refine BigFrame.wpQuiet_want (by kernel_rfl) (fun K hK => quiet_neq 23 23 (.tmp 47) (.tmp 49) (by with_reducible rfl) _ _ rfl rfl _ (HE2.out) (by kernel_rfl) (hK _ ?_)); simp only [Act.put, List.setIfInBounds_toArray, List.set_cons_zero, List.set_cons_succ]) | go_big_quiet_step (first | (go_at_call 13; exact rgB (HBT.out _)) | (go_at_call 14; exact rgB (HRB.out _)) | (go_at_call 15; exact rgB (HWK.out _)) | (go_at_call 16; exact rgB (HRW.out _))) | quiet_step (first | (go_at_call 13; exact rgB (HBT.out _)) | (go_at_call 14; exact rgB (HRB.out _)) | (go_at_call 15; exact rgB (HWK.out _)) | (go_at_call 16; exact rgB (HRW.out _))))
    refine wpQuiet_nil ?_
    intro _ hw'
    obtain ⟨⟨dq, osq⟩, hw''⟩ := hw'
    subst hw''
    have hkq := below_regrown w10 dq osq
    generalize Go.Sort.grow (redrawn w10 dq) osq = wq at *
    have HK11 := Lib.hid (HK10.out.trans hkq); have HQ11 := Lib.hid (HQ10.out.keeps hkq)
    clear hkq HK10 HQ10 HWK HRW HRB
    go_upto_region 10 with (first | (refine wpList_load_at rfl 23 (.tmp 3) rfl p 0 rfl L _ HQ11.out Tryd.underlying23 rfl hz1 ?_) | (go_at_call 13; refine (HBT.out _).mono ?_; rintro e W12 ⟨rfl, hk12⟩; have HK12 := Lib.hid hk12; clear hk12) | (go_at_call 11; refine (HTG2.out _).mono ?_; rintro e W13 ⟨rfl, hk13⟩; have HK13 := Lib.hid hk13; clear hk13) | (refine wpList_store_row rfl 23 (.tmp 9) (.tmp 56) rfl _ 0 rfl (List.replicate 32 (Value.int .u8 0)) (T2.map (Value.int .u8)) rfl (Row.new _ _ _ rfl) (by simp [hl3]) (sz_n32 T2 hl3) (int_oneCell _) ?_; intro w14 hr14 hc14; have H14 := Lib.hid hr14; have HC14 := Lib.hid hc14; clear hr14 hc14))
    have HK14 := Lib.hid (laid_keeps ((HK11.out.trans HK12.out).trans HK13.out) HC14.out)
    have HQ14 := Lib.hid (HQ11.out.keeps (laid_keeps (HK12.out.trans HK13.out) HC14.out))
    generalize W13.heap.size = g3 at *
    clear HC14 HK12 HK13 HK11 HQ11 HTG2
    rcases HC2.out with rfl | ⟨rfl, rfl⟩ | ⟨rfl, rfl⟩
    · go_wp2
      go_ret
      exact ⟨rfl, HK14.out⟩
    · go_wp2_with (first | (refine wpList_load_on (by kernel_rfl) 23 (.tmp 9) rfl g3 0 rfl (T2.map (Value.int .u8)) _ H14.out Tryd.underlying23 rfl (sz_n32 T2 hl3) ?_) | (refine wpList_load_on (by kernel_rfl) 23 (.tmp 3) rfl p 0 rfl L _ HQ14.out Tryd.underlying23 rfl hz1 ?_) | (go_at_call 8; refine (HCM.out _).mono ?_; rintro e W15 ⟨rfl, hk15⟩; have HK15 := Lib.hid hk15; clear hk15))
      go_ret
      exact ⟨rfl, HK14.out.trans HK15.out⟩
    · go_wp2_with (first | (refine wpList_load_on (by kernel_rfl) 23 (.tmp 9) rfl g3 0 rfl (T2.map (Value.int .u8)) _ H14.out Tryd.underlying23 rfl (sz_n32 T2 hl3) ?_) | (refine wpList_load_on (by kernel_rfl) 23 (.tmp 3) rfl p 0 rfl L _ HQ14.out Tryd.underlying23 rfl hz1 ?_) | (go_at_call 8; refine (HCM.out _).mono ?_; rintro e W15 ⟨rfl, hk15⟩; have HK15 := Lib.hid hk15; clear hk15))
      go_ret
      exact ⟨rfl, HK14.out.trans HK15.out⟩
end Go.Proofs.YtdcoiniecmeglaaDoor
