/- The reference's Next. -/
import Derived.Test.YtdcoiniecmeglaaDoorRefTimes
import Derived.Test.YtdcoiniecmeglaaDoorRefBits
import Derived.Test.YtdcoiniecmeglaaDoorBlkAwake
namespace Go.Proofs.YtdcoiniecmeglaaDoor
set_option linter.unusedVariables false
set_option linter.unusedSimpArgs false
open Go Go.RowKit

theorem wpList_eql {P : Program} {ops : Array Oper} {rest : List Oper} {o : Oper} {a : Act} {w : World} {Q : Exit → Act → World → Prop} (hw : Region.wanted o (yielded ops a.tmps) = true) (t t' : TypeId) (x y : Operand) (ho : o.op = .binOp .eql t x y t')
    (A B : Array Value) (hx : a.eval x = .agg A) (hy : a.eval y = .agg B) (r : Bool) (hE : ∀ W, (Op.equalIn 10000 t (.agg A) (.agg B)).run P W = .ok r W) (hm : P.eqGuardType P.depth t = false)
    (h : wpList P ops Q rest (a.put o.dst (.bool r)) w) : wpList P ops Q (o :: rest) a w :=
  BigFrame.wpList_want hw fun _ hK => by
    have h : (execOp a.eval o).run P w = .ok (.value (.bool r)) w := by
      unfold execOp
      simp only [ho, hx, hy]
      simp only [Sem.run_bind, Sem.run_pure, run_eqGuard_agg _ _ _ _ _ _ _ hm, run_eql_struct, hE, Result.andThen_ok]
    unfold Oper.wp
    rw [h]
    refine hK _ _ ?_
    assumption
theorem limit_be : toB 32 (be limitB) = limitB := toB_be' limitB_bytes limitB_length
theorem limit_nz : limitB ≠ zero32 := by decide +kernel
theorem toB_small_zero {Q : Int} (h0 : 0 ≤ Q) (h1 : Q ≤ be limitB) : (toB 32 Q = zero32) ↔ Q = 0 := by
  have hl := limit_small
  have hb := be_toB' Q
  have hm : Q % N256 = Q := Int.emod_eq_of_lt h0 (by unfold N256; omega)
  constructor
  · intro h
    rw [h] at hb
    have : be zero32 = 0 := by decide +kernel
    omega
  · rintro rfl
    decide +kernel
/-- the three ways that Next ends -/
theorem next_leaf (x s : Int) (hs : (target x).isSome = true) :
    0 ≤ be (tgtRes x) * clampS s / 4800 ∧
    ((be limitB < be (tgtRes x) * clampS s / 4800 ∧ nextRes x s = bitsOf limitB) ∨ (be (tgtRes x) * clampS s / 4800 = 0 ∧ nextRes x s = bitsOf (toB 32 1)) ∨
     (0 < be (tgtRes x) * clampS s / 4800 ∧ be (tgtRes x) * clampS s / 4800 ≤ be limitB ∧ nextRes x s = bitsOf (toB 32 (be (tgtRes x) * clampS s / 4800)))) := by
  have h2 := clampS_range s
  have h3 : 0 ≤ be (tgtRes x) * clampS s / 4800 := Int.ediv_nonneg (Int.mul_nonneg (be_range (tgtRes_bytes x)).1 (by omega)) (by decide)
  have h4 := limit_pos
  refine ⟨h3, ?_⟩
  have hn : nextRes x s = bitsOf (toB 32 (nextV x s)) := if_pos hs
  rw [hn]
  unfold nextV
  generalize be (tgtRes x) * clampS s / 4800 = Q at *
  by_cases h5 : be limitB < Q
  · exact .inl ⟨h5, by rw [if_pos h5, limit_be]⟩
  · by_cases h6 : Q = 0
    · exact .inr (.inl ⟨h6, by rw [if_neg h5, if_pos h6]⟩)
    · exact .inr (.inr ⟨by omega, by omega, by rw [if_neg h5, if_neg h6]⟩)
theorem clamp_case (s : Int) : (s < 1200 ∧ clampS s = 1200) ∨ (¬ s < 1200 ∧ 19200 < s ∧ clampS s = 19200) ∨ (¬ s < 1200 ∧ ¬ 19200 < s ∧ clampS s = s) := by
  unfold clampS
  by_cases h1 : s < 1200
  · exact .inl ⟨h1, if_pos h1⟩
  · by_cases h2 : 19200 < s
    · exact .inr (.inl ⟨h1, h2, by rw [if_neg h1, if_pos h2]⟩)
    · exact .inr (.inr ⟨h1, h2, by rw [if_neg h1, if_neg h2]⟩)
set_option maxRecDepth 100000 in
set_option maxHeartbeats 8000000 in
theorem rnext_any (x s : Int) (h0 : 0 ≤ x) (h1 : x < 4294967296) (w : World) :
    Calls Tryd.prog 18 #[.int .u32 x, .int .i64 s] w fun e w' => e = .returned (.int .u32 (nextRes x s)) ∧ Keeps w w' := by
  have htg := rtarget_any x h0 h1
  have hl9 := tgtRes_length x
  have hbt := tgtRes_bytes x
  by_cases hsm : (target x).isSome = true
  · obtain ⟨hq0, hleaf⟩ := next_leaf x s hsm
    have hcr := clampS_range s
    have hcc := clamp_case s
    rw [hsm] at htg
    have hT0 : 0 ≤ be (tgtRes x) := (be_range hbt).1
    have hT1 : be (tgtRes x) < 57896044618658097711785492504343953926634992332820282019728792003956564819968 := by
      obtain ⟨_, _, _, _, h2, _⟩ := target_some hsm
      have := limit_small
      omega
    generalize nextRes x s = RES at *
    generalize clampS s = S at *
    have hti := times_any (tgtRes x) hbt hl9 S (by omega) hcr.2
    generalize tgtRes x = TT at *
    generalize be TT = T at *
    have hmul0 : 0 ≤ T * S := Int.mul_nonneg hT0 (by omega)
    have hmul1 : T * S < 256 ^ 36 := by
      have : T * S ≤ 57896044618658097711785492504343953926634992332820282019728792003956564819968 * 19200 := Int.mul_le_mul (by omega) hcr.2 (by omega) (by omega)
      have e : (57896044618658097711785492504343953926634992332820282019728792003956564819968 : Int) * 19200 < 256 ^ 36 := by decide
      omega
    have hsh := shared_any (toB 36 (T * S)) (toB_bytes _ _) (toB_length _ _)
    rw [be_toB, Int.emod_eq_of_lt hmul0 hmul1] at hsh
    generalize toB 36 (T * S) = P36 at *
    generalize T * S / 4800 = Q at *
    have hlim := limit_small
    have hls := less_any limitB (toB 32 Q) limitB_bytes (toB_bytes _ _) limitB_length (toB_length _ _)
    have hE := fun W => equal_bytes W 22 32 Tryd.underlying22 (toB 32 Q) zero32 (toB_bytes _ _) zero32_bytes (toB_length _ _) zero32_length
    have hEL := fun W => equal_bytes W 22 32 Tryd.underlying22 limitB zero32 limitB_bytes zero32_bytes limitB_length zero32_length
    rw [decide_eq_false limit_nz] at hEL
    rw [be_toB'] at hls
    have hnl := toB_length 32 Q
    have hll := limitB_length
    -- the four leaves
    have hcases : (decide (Q < N256) = false ∧ RES = bitsOf limitB) ∨ (decide (Q < N256) = true ∧ decide (be limitB < Q % N256) = true ∧ RES = bitsOf limitB) ∨
        (decide (Q < N256) = true ∧ decide (be limitB < Q % N256) = false ∧ decide (toB 32 Q = zero32) = true ∧ (toB 32 Q).set 31 1 = toB 32 1 ∧ RES = bitsOf (toB 32 1)) ∨
        (decide (Q < N256) = true ∧ decide (be limitB < Q % N256) = false ∧ decide (toB 32 Q = zero32) = false ∧ RES = bitsOf (toB 32 Q)) := by
      by_cases hbig : Q < N256
      · rw [Int.emod_eq_of_lt hq0 hbig]
        rcases hleaf with ⟨ha, hb⟩ | ⟨ha, hb⟩ | ⟨ha, hb, hc⟩
        · exact .inr (.inl ⟨decide_eq_true hbig, decide_eq_true ha, hb⟩)
        · refine .inr (.inr (.inl ⟨decide_eq_true hbig, decide_eq_false (by have := limit_pos; omega), decide_eq_true ((toB_small_zero hq0 (by have := limit_pos; omega)).2 ha), ?_, hb⟩))
          rw [ha]; decide +kernel
        · refine .inr (.inr (.inr ⟨decide_eq_true hbig, decide_eq_false (by omega), decide_eq_false (fun h => ?_), hc⟩))
          have := (toB_small_zero hq0 hb).1 h
          omega
      · rcases hleaf with ⟨ha, hb⟩ | ⟨ha, hb⟩ | ⟨ha, hb, hc⟩
        · exact .inl ⟨decide_eq_false hbig, hb⟩
        · exact absurd (by unfold N256; omega) hbig
        · exact absurd (by unfold N256; omega) hbig
    have hB1 := rbits_any limitB limitB_bytes hll
    have hB2 := rbits_any (toB 32 1) (toB_bytes _ _) (toB_length _ _)
    have hB3 := rbits_any (toB 32 Q) (toB_bytes _ _) hnl
    have hol := toB_length 32 1
    clear hleaf hq0 hcr hT0 hT1 hmul0 hmul1 hlim hbt h0 h1
    generalize bitsOf limitB = b1 at *
    generalize bitsOf (toB 32 1) = b2 at *
    generalize bitsOf (toB 32 Q) = b3 at *
    generalize decide (Q < N256) = FT at *
    generalize decide (be limitB < Q % N256) = LS at *
    generalize decide (toB 32 Q = zero32) = EQ at *
    generalize toB 32 Q = N at *
    generalize toB 32 1 = O1 at *
    have hlim := rlimit_any
    generalize limitB = LB at *
    have HTG := Lib.hid htg; have HTI := Lib.hid hti; have HSH := Lib.hid hsh; have HLS := Lib.hid hls; have HE := Lib.hid hE; have HEL := Lib.hid hEL; have HB1 := Lib.hid hB1; have HB2 := Lib.hid hB2; have HB3 := Lib.hid hB3; have HLI := Lib.hid hlim
    clear htg hti hsh hls hE hEL hB1 hB2 hB3 hlim
    have HCA := Lib.hid hcases
    clear hcases
    have hz9 := zero32_length
    rcases hcc with ⟨hca, rfl⟩ | ⟨hca, hcb, rfl⟩ | ⟨hca, hcb, rfl⟩ <;> (
      go_enter Tryd.func18, Tryd.ntmps18
      go_upto_region 2 with (first | (go_at_call 12; refine (HTG.out _).mono ?_; rintro e W5 ⟨rfl, hk5⟩; have HK5 := Lib.hid hk5; clear hk5) | (refine wpList_store_row rfl 22 (.tmp 5) (.tmp 12) rfl _ 0 rfl (List.replicate 32 (Value.int .u8 0)) (TT.map (Value.int .u8)) rfl (Row.new _ _ _ rfl) (by simp [hl9]) (sz_a32 TT hl9) (int_oneCell _) ?_; intro w8 hr8 hc8; have H8 := Lib.hid hr8; have HC8 := Lib.hid hc8; clear hr8 hc8))
      have HK8 := Lib.hid (laid_keeps HK5.out HC8.out)
      generalize W5.heap.size = g5 at *
      clear HC8 HK5 HTG
      go_upto_region 9 with (first | (refine wpList_load_at rfl 22 (.tmp 5) rfl g5 0 rfl (TT.map (Value.int .u8)) _ H8.out Tryd.underlying22 rfl (sz_a32 TT hl9) ?_) | (go_at_call 37; refine (HTI.out _).mono ?_; rintro e W6 ⟨rfl, hk6⟩; have HK6 := Lib.hid hk6; clear hk6) | (go_at_call 36; refine (HSH.out _).mono ?_; rintro e W7 ⟨rfl, hk7⟩; have HK7 := Lib.hid hk7; clear hk7) | (refine wpList_store_row rfl 22 (.tmp 7) (.tmp 25) rfl _ 0 rfl (List.replicate 32 (Value.int .u8 0)) (N.map (Value.int .u8)) rfl (Row.new _ _ _ rfl) (by simp [hnl]) (sz_a32 N hnl) (int_oneCell _) ?_; intro w10 hr10 hc10; have H10 := Lib.hid hr10; have HC10 := Lib.hid hc10; clear hr10 hc10))
      have HK10 := Lib.hid (laid_keeps ((HK8.out.trans HK6.out).trans HK7.out) HC10.out)
      have hg7 : w.heap.size ≤ W7.heap.size := ((HK8.out.trans HK6.out).trans HK7.out).size
      generalize W7.heap.size = g7 at *
      clear HC10 HK6 HK7 HK8 H8 HTI HSH
      rcases HCA.out with ⟨rfl, rfl⟩ | ⟨rfl, rfl, rfl⟩ | ⟨rfl, rfl, rfl, hset, rfl⟩ | ⟨rfl, rfl, rfl, rfl⟩
      · skip
        refine wp_region_quiet_below (by kernel_rfl) (by kernel_rfl) ?_
        repeat (first | go_big_quiet_skip | (refine BigFrame.wpQuiet_want (by kernel_rfl) (fun K hK => quiet_load_row 22 (.tmp 7) (by with_reducible rfl) g7 0 rfl (N.map (Value.int .u8)) _ (H10.out).cls Tryd.underlying22 rfl (sz_a32 N hnl) (hK _ ?_)); simp only [Act.put, List.setIfInBounds_toArray, List.set_cons_zero, List.set_cons_succ]) | go_big_quiet_step (first | (go_at_call 28; exact rgB (HLI.out _)) | (go_at_call 7; exact rgB (HLS.out _))) | quiet_step (first | (go_at_call 28; exact rgB (HLI.out _)) | (go_at_call 7; exact rgB (HLS.out _))))
        refine wpQuiet_nil ?_
        intro _ hw'
        obtain ⟨⟨dq, osq⟩, hw''⟩ := hw'
        subst hw''
        have hkq := below_regrown w10 dq osq
        generalize Go.Sort.grow (redrawn w10 dq) osq = wq at *
        have HK11 := Lib.hid (HK10.out.trans hkq); have H11 := Lib.hid (H10.out.keeps hkq)
        clear hkq HK10 H10
        go_upto_region 11 with (first | (go_at_call 28; refine (HLI.out _).mono ?_; rintro e W12 ⟨rfl, hk12⟩; have HK12 := Lib.hid (HK11.out.trans hk12); have H12 := Lib.hid (H11.out.keeps hk12); clear hk12) | (refine wpList_store_row rfl 22 (.tmp 7) (.tmp 34) rfl g7 0 rfl _ (LB.map (Value.int .u8)) rfl H12.out (by simp [hll, hnl]) (sz_a32 LB hll) (int_oneCell _) ?_; intro w13 hr13 hc13; have H13 := Lib.hid hr13; have HC13 := Lib.hid hc13; clear hr13 hc13))
        have HK13 := Lib.hid (keeps_chg HK12.out HC13.out hg7)
        go_wp2_with (first | (refine wpList_load_at rfl 22 (.tmp 7) rfl g7 0 rfl (LB.map (Value.int .u8)) _ H13.out Tryd.underlying22 rfl (sz_a32 LB hll) ?_) | (refine wpList_eql (by kernel_rfl) 22 22 (.tmp 35) (.tmp 36) rfl _ _ rfl rfl false HEL.out (by kernel_rfl) ?_) | (go_at_call 14; refine (HB1.out _).mono ?_; rintro e W15 ⟨rfl, hk15⟩; have HK15 := Lib.hid hk15; clear hk15))
        go_ret
        exact ⟨rfl, HK13.out.trans HK15.out⟩
      · skip
        refine wp_region_quiet_below (by kernel_rfl) (by kernel_rfl) ?_
        repeat (first | go_big_quiet_skip | (refine BigFrame.wpQuiet_want (by kernel_rfl) (fun K hK => quiet_load_row 22 (.tmp 7) (by with_reducible rfl) g7 0 rfl (N.map (Value.int .u8)) _ (H10.out).cls Tryd.underlying22 rfl (sz_a32 N hnl) (hK _ ?_)); simp only [Act.put, List.setIfInBounds_toArray, List.set_cons_zero, List.set_cons_succ]) | go_big_quiet_step (first | (go_at_call 28; exact rgB (HLI.out _)) | (go_at_call 7; exact rgB (HLS.out _))) | quiet_step (first | (go_at_call 28; exact rgB (HLI.out _)) | (go_at_call 7; exact rgB (HLS.out _))))
        refine wpQuiet_nil ?_
        intro _ hw'
        obtain ⟨⟨dq, osq⟩, hw''⟩ := hw'
        subst hw''
        have hkq := below_regrown w10 dq osq
        generalize Go.Sort.grow (redrawn w10 dq) osq = wq at *
        have HK11 := Lib.hid (HK10.out.trans hkq); have H11 := Lib.hid (H10.out.keeps hkq)
        clear hkq HK10 H10
        go_upto_region 11 with (first | (go_at_call 28; refine (HLI.out _).mono ?_; rintro e W12 ⟨rfl, hk12⟩; have HK12 := Lib.hid (HK11.out.trans hk12); have H12 := Lib.hid (H11.out.keeps hk12); clear hk12) | (refine wpList_store_row rfl 22 (.tmp 7) (.tmp 34) rfl g7 0 rfl _ (LB.map (Value.int .u8)) rfl H12.out (by simp [hll, hnl]) (sz_a32 LB hll) (int_oneCell _) ?_; intro w13 hr13 hc13; have H13 := Lib.hid hr13; have HC13 := Lib.hid hc13; clear hr13 hc13))
        have HK13 := Lib.hid (keeps_chg HK12.out HC13.out hg7)
        go_wp2_with (first | (refine wpList_load_at rfl 22 (.tmp 7) rfl g7 0 rfl (LB.map (Value.int .u8)) _ H13.out Tryd.underlying22 rfl (sz_a32 LB hll) ?_) | (refine wpList_eql (by kernel_rfl) 22 22 (.tmp 35) (.tmp 36) rfl _ _ rfl rfl false HEL.out (by kernel_rfl) ?_) | (go_at_call 14; refine (HB1.out _).mono ?_; rintro e W15 ⟨rfl, hk15⟩; have HK15 := Lib.hid hk15; clear hk15))
        go_ret
        exact ⟨rfl, HK13.out.trans HK15.out⟩
      · skip
        refine wp_region_quiet_below (by kernel_rfl) (by kernel_rfl) ?_
        repeat (first | go_big_quiet_skip | (refine BigFrame.wpQuiet_want (by kernel_rfl) (fun K hK => quiet_load_row 22 (.tmp 7) (by with_reducible rfl) g7 0 rfl (N.map (Value.int .u8)) _ (H10.out).cls Tryd.underlying22 rfl (sz_a32 N hnl) (hK _ ?_)); simp only [Act.put, List.setIfInBounds_toArray, List.set_cons_zero, List.set_cons_succ]) | go_big_quiet_step (first | (go_at_call 28; exact rgB (HLI.out _)) | (go_at_call 7; exact rgB (HLS.out _))) | quiet_step (first | (go_at_call 28; exact rgB (HLI.out _)) | (go_at_call 7; exact rgB (HLS.out _))))
        refine wpQuiet_nil ?_
        intro _ hw'
        obtain ⟨⟨dq, osq⟩, hw''⟩ := hw'
        subst hw''
        have hkq := below_regrown w10 dq osq
        generalize Go.Sort.grow (redrawn w10 dq) osq = wq at *
        have hk11 := HK10.out.trans hkq; have h11 := H10.out.keeps hkq
        have c31 := h11.int0 31 (by omega)
        have f31 := h11.free0 31 (by rw [List.length_map]; omega)
        have h13 := h11.setInt0 31 (by omega) 1
        rw [hset] at h13
        have HK13 := Lib.hid (keeps_set hk11 hg7 (i := 31) (.int .u8 1)); have H13 := Lib.hid h13; have H11 := Lib.hid h11
        clear hkq HK10 H10 hk11 h11 h13
        generalize N.getD 31 0 = old at *
        go_wp2_with (first | (refine wpList_load_at rfl 22 (.tmp 7) rfl g7 0 rfl (N.map (Value.int .u8)) _ H11.out Tryd.underlying22 rfl (sz_a32 N hnl) ?_) | (refine wpList_load_at rfl 22 (.tmp 7) rfl g7 0 rfl (O1.map (Value.int .u8)) _ H13.out Tryd.underlying22 rfl (sz_a32 O1 hol) ?_) | (refine wpList_eql (by kernel_rfl) 22 22 (.tmp 35) (.tmp 36) rfl _ _ rfl rfl true HE.out (by kernel_rfl) ?_) | (go_at_call 14; refine (HB2.out _).mono ?_; rintro e W15 ⟨rfl, hk15⟩; have HK15 := Lib.hid hk15; clear hk15))
        go_ret
        exact ⟨rfl, HK13.out.trans HK15.out⟩
      · skip
        refine wp_region_quiet_below (by kernel_rfl) (by kernel_rfl) ?_
        repeat (first | go_big_quiet_skip | (refine BigFrame.wpQuiet_want (by kernel_rfl) (fun K hK => quiet_load_row 22 (.tmp 7) (by with_reducible rfl) g7 0 rfl (N.map (Value.int .u8)) _ (H10.out).cls Tryd.underlying22 rfl (sz_a32 N hnl) (hK _ ?_)); simp only [Act.put, List.setIfInBounds_toArray, List.set_cons_zero, List.set_cons_succ]) | go_big_quiet_step (first | (go_at_call 28; exact rgB (HLI.out _)) | (go_at_call 7; exact rgB (HLS.out _))) | quiet_step (first | (go_at_call 28; exact rgB (HLI.out _)) | (go_at_call 7; exact rgB (HLS.out _))))
        refine wpQuiet_nil ?_
        intro _ hw'
        obtain ⟨⟨dq, osq⟩, hw''⟩ := hw'
        subst hw''
        have hkq := below_regrown w10 dq osq
        generalize Go.Sort.grow (redrawn w10 dq) osq = wq at *
        have HK11 := Lib.hid (HK10.out.trans hkq); have H11 := Lib.hid (H10.out.keeps hkq)
        clear hkq HK10 H10
        go_wp2_with (first | (refine wpList_load_at rfl 22 (.tmp 7) rfl g7 0 rfl (N.map (Value.int .u8)) _ H11.out Tryd.underlying22 rfl (sz_a32 N hnl) ?_) | (refine wpList_eql (by kernel_rfl) 22 22 (.tmp 35) (.tmp 36) rfl _ _ rfl rfl false HE.out (by kernel_rfl) ?_) | (go_at_call 14; refine (HB3.out _).mono ?_; rintro e W15 ⟨rfl, hk15⟩; have HK15 := Lib.hid hk15; clear hk15))
        go_ret
        exact ⟨rfl, HK11.out.trans HK15.out⟩)
  · have hW : nextRes x s = 545259519 := if_neg hsm
    have hs2 : (target x).isSome = false := by simpa using hsm
    rw [hs2] at htg
    rw [hW]
    clear hW hsm hs2 hbt
    generalize tgtRes x = TT at *
    have HTG := Lib.hid htg
    clear htg
    go_enter Tryd.func18, Tryd.ntmps18
    go_upto_region 2 with (first | (go_at_call 12; refine (HTG.out _).mono ?_; rintro e W5 ⟨rfl, hk5⟩; have HK5 := Lib.hid hk5; clear hk5) | (refine wpList_store_row rfl 22 (.tmp 5) (.tmp 12) rfl _ 0 rfl (List.replicate 32 (Value.int .u8 0)) (TT.map (Value.int .u8)) rfl (Row.new _ _ _ rfl) (by simp [hl9]) (sz_a32 TT hl9) (int_oneCell _) ?_; intro w8 hr8 hc8; have H8 := Lib.hid hr8; have HC8 := Lib.hid hc8; clear hr8 hc8))
    have HK8 := Lib.hid (laid_keeps HK5.out HC8.out)
    go_wp2
    go_ret
    exact ⟨rfl, HK8.out⟩
end Go.Proofs.YtdcoiniecmeglaaDoor
