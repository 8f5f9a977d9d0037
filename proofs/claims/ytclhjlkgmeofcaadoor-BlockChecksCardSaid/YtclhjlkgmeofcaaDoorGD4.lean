/- The reference's Target. -/
import Derived.Test.YtclhjlkgmeofcaaDoorGD3
namespace Go.Proofs.YtclhjlkgmeofcaaDoor
set_option linter.unusedVariables false
set_option linter.unusedSimpArgs false
open Go Go.RowKit

/-- what is left of m, the parts behind the point gone and k bytes taken -/
def rM (e : Nat) (m : Int) (k : Nat) : Int := m / 256 ^ (3 - e) / 256 ^ k
theorem rM_zero (e : Nat) (m : Int) : rM e m 0 = m / 256 ^ (3 - e) := by simp [rM]
theorem rM_succ (e : Nat) (m : Int) (k : Nat) : rM e m k / 256 = rM e m (k + 1) := by
  unfold rM; rw [Int.pow_succ, Int.ediv_ediv_of_nonneg (Int.pow_nonneg (by decide))]
theorem rM_byte (e : Nat) (m : Int) (k : Nat) : rM e m k % 256 = rB e m k := rfl
theorem div_range {m : Int} (h0 : 0 ≤ m) (h1 : m < 16777216) (j : Nat) : 0 ≤ m / 256 ^ j ∧ m / 256 ^ j < 16777216 := ⟨Int.ediv_nonneg h0 (Int.pow_nonneg (by decide)), Int.lt_of_le_of_lt (Int.ediv_le_self _ h0) h1⟩
theorem rM_range {e : Nat} {m : Int} (h0 : 0 ≤ m) (h1 : m < 16777216) (k : Nat) : 0 ≤ rM e m k ∧ rM e m k < 16777216 := div_range (div_range h0 h1 _).1 (div_range h0 h1 _).2 k
theorem div_succ (m : Int) (j : Nat) : m / 256 ^ j / 256 = m / 256 ^ (j + 1) := by
  rw [Int.pow_succ, Int.ediv_ediv_of_nonneg (Int.pow_nonneg (by decide))]
def divP (m : Int) (j : Nat) : Int := m / 256 ^ j
theorem sz_a32 (l : List Int) (h : l.length = 32) : (Tryd.prog.info? 23).map (·.size) = some (l.map (Value.int .u8)).length := by rw [List.length_map, h]; kernel_rfl
set_option maxRecDepth 100000 in
set_option maxHeartbeats 4000000 in
theorem rtarget_any (x : Int) (h0 : 0 ≤ x) (h1 : x < 4294967296) (w : World) :
    Calls Tryd.prog 35 #[.int .u32 x] w fun e w' => e = .returned (.tuple #[.agg ((tgtRes x).map (Value.int .u8)).toArray, .bool (target x).isSome]) ∧ Keeps w w' := by
  obtain ⟨e, he⟩ : ∃ e : Nat, x / 16777216 = e := ⟨(x / 16777216).toNat, by omega⟩
  have he2 : e < 256 := by omega
  obtain ⟨m, hm⟩ : ∃ m, x % 16777216 = m := ⟨_, rfl⟩
  have hm0 : 0 ≤ m := by omega
  have hm1 : m < 16777216 := by omega
  have hq1 : x.tdiv 16777216 = e := by rw [Int.tdiv_eq_ediv_of_nonneg h0, he]
  have hq2 : x.tmod 16777216 = m := by rw [Int.tmod_eq_emod_of_nonneg h0, hm]
  have hx : expand x = if 8388608 ≤ m then none else if expBad e m 3 = true then none else some (expB e m 3) := by
    unfold expand; rw [he, hm, Int.toNat_natCast]
  have hno : expand x = none → tgtRes x = nm_zero32 ∧ (target x).isSome = false := fun h => by
    unfold tgtRes target; rw [h]; exact ⟨rfl, rfl⟩
  have hA : 8388608 ≤ m → tgtRes x = nm_zero32 ∧ (target x).isSome = false := fun h => hno (by rw [hx, if_pos h])
  have hB : ¬ 8388608 ≤ m → badR e m 3 = true → tgtRes x = nm_zero32 ∧ (target x).isSome = false := fun h hb => hno (by rw [hx, if_neg h, if_pos (by rw [← badR_full]; exact hb)])
  have hX : ¬ 8388608 ≤ m → badR e m 3 = false → expand x = some (expR e m 3) := fun h hb => by
    rw [hx, if_neg h, if_neg (by rw [← badR_full, hb]; decide), expR_full e m hm0 hm1]
  have hC : ¬ 8388608 ≤ m → badR e m 3 = false → (expR e m 3 = nm_zero32 ∨ be limitB < be (expR e m 3)) → tgtRes x = nm_zero32 ∧ (target x).isSome = false := fun h hb hc => by
    have : target x = none := by unfold target; rw [hX h hb]; exact if_pos hc
    unfold tgtRes; rw [this]; exact ⟨rfl, rfl⟩
  have hD : ¬ 8388608 ≤ m → badR e m 3 = false → ¬ (expR e m 3 = nm_zero32 ∨ be limitB < be (expR e m 3)) → tgtRes x = expR e m 3 ∧ (target x).isSome = true := fun h hb hc => by
    have : target x = some (expR e m 3) := by unfold target; rw [hX h hb]; exact if_neg hc
    unfold tgtRes; rw [this]; exact ⟨rfl, rfl⟩
  clear hX hno hx he hm
  generalize tgtRes x = TR at *
  generalize (target x).isSome = TB at *
  have HA := Lib.hid hA; have HB := Lib.hid hB; have HC := Lib.hid hC; have HD := Lib.hid hD
  clear hA hB hC hD
  have hz9 := zero32_length
  go_enter Tryd.func35, Tryd.ntmps35
  go_upto_region 2 with (fail)
  refine nm_wp_rows2 (fun W hk hr2 hr4 hs => ?_)
  obtain ⟨p, hp⟩ : ∃ p, p = w.heap.size := ⟨_, rfl⟩
  rw [← hp] at hr2 hr4 hs ⊢
  have hkp : w.heap.size ≤ p := by omega
  have HR2 := Lib.hid (show Row W p 0 (nm_zero32.map (Value.int .u8)) from hr2); have HR4 := Lib.hid (show Row W (p + 1) 0 (nm_zero32.map (Value.int .u8)) from hr4); have HK := Lib.hid hk
  clear hs hr2 hr4 hk hp
  go_upto_region 4 with (fail)
  clear hq1 hq2
  by_cases hbig : 8388608 ≤ m
  · have hd : decide ((m : Int) ≥ 8388608) = true := by simpa using hbig
    obtain ⟨hq1, hq2⟩ := HA.out hbig
    have HQ1 := Lib.hid hq1; have HQ2 := Lib.hid hq2
    clear hq1 hq2
    go_wp2_with (first | (refine wpList_load_at rfl 23 (.tmp 4) rfl (p + 1) 0 rfl (nm_zero32.map (Value.int .u8)) _ HR4.out Tryd.underlying23 rfl (sz_a32 nm_zero32 hz9) ?_) | (refine wpList_store_row rfl 23 (.tmp 2) (.tmp 17) rfl p 0 rfl _ (nm_zero32.map (Value.int .u8)) rfl HR2.out rfl (sz_a32 nm_zero32 hz9) (int_oneCell _) ?_; intro w9 hr9 hc9; have H9 := Lib.hid hr9; have HC9 := Lib.hid hc9; clear hr9 hc9))
    exact bodyPost_ret (v := .tuple #[.agg (nm_zero32.map (Value.int .u8)).toArray, .bool false]) (results_cell_tmpB (p := 2) (t := 3) (ty := 23) rfl _ _ p 0 _ _ _ rfl rfl H9.out Tryd.underlying23 rfl (sz_a32 nm_zero32 hz9)) rfl ⟨by rw [HQ1.out, HQ2.out], nm_keeps_chg HK.out HC9.out (by omega)⟩
  · have hd : decide ((m : Int) ≥ 8388608) = false := by simpa using hbig
    have HB2 := Lib.hid (HB.out hbig); have HC2 := Lib.hid (HC.out hbig); have HD2 := Lib.hid (HD.out hbig)
    clear HA HB HC HD
    have HDS := Lib.hid (show ∀ j, divP m j / 256 = divP m (j + 1) from div_succ m)
    have HDR := Lib.hid (show ∀ j, 0 ≤ divP m j ∧ divP m j < 16777216 from div_range hm0 hm1)
    have HD0 := Lib.hid (show divP m 0 = m by simp [divP])
    have HDE := Lib.hid (show rM e m 0 = divP m (3 - e) from rM_zero e m)
    generalize divP m = DP at *
    go_wp2
    go_loopw [5, 6] (fun ee mm wr => wr = W ∧ ∃ j : Nat, j ≤ 3 - e ∧ ee = .int .i64 (e + j : Nat) ∧ mm = .int .u32 (DP j)) (fun ee _ _ => (3 - intOf ee).toNat)
    case atStart => exact ⟨rfl, 0, by omega, rfl, by rw [HD0.out]⟩
    case round =>
      obtain ⟨rfl, j, hj, rfl, rfl⟩ := hrel
      by_cases hlt : e + j < 3
      · obtain ⟨d0, d1⟩ := HDR.out j
        have hds := HDS.out j
        have HDS2 := Lib.hid hds
        clear hds
        generalize DP j = d at *
        go_wp2
        go_roundw
        case rel => exact ⟨trivial, j + 1, by omega, by go_num, by rw [HDS2.out]⟩
        case measure => simp [intOf]; omega
      · have hj3 : j = 3 - e := by omega
        have hdp : DP j = rM e m 0 := by rw [HDE.out, hj3]
        rw [hdp]
        obtain ⟨E, hE⟩ : ∃ E : Nat, E = e + j := ⟨_, rfl⟩
        have hEE : max e 3 = E := by omega
        rw [← hE] at hlt ⊢
        have hE3 : 3 ≤ E := by omega
        have hE9 : E < 256 := by omega
        clear hdp hj3 hE hj HDS HDR HD0 HDE
        have HXS := Lib.hid (show ∀ k q, q + E + k = 34 → k < 3 → (expR e m k).set q (rB e m k) = expR e m (k + 1) from fun k q h1 h2 => expR_set e m k q (by rw [hEE]; exact h1) h2)
        have HXO := Lib.hid (show ∀ k, 34 < E + k → expR e m k = expR e m (k + 1) from fun k h => expR_out e m k (by rw [hEE]; exact h))
        have HXL := Lib.hid (expR_length e m)
        have HXB := Lib.hid (expR_bytes e m 3)
        have HX0 := Lib.hid (show expR e m 0 = nm_zero32 from expR_zero e m)
        have HBZ := Lib.hid (badR_zero e m)
        have HBS := Lib.hid (show ∀ k, badR e m (k + 1) = (badR e m k || (decide (34 < E + k) && rB e m k != 0)) from fun k => by rw [badR_succ, hEE])
        have HBM := Lib.hid (fun k k' h hb => badR_mono e m (k := k) (k' := k') h hb)
        have HRS := Lib.hid (rM_succ e m)
        have HRR := Lib.hid (show ∀ k, 0 ≤ rM e m k ∧ rM e m k < 16777216 from rM_range hm0 hm1)
        have HRB := Lib.hid (rM_byte e m)
        clear hEE hd hbig
        generalize expR e m = X at *
        generalize badR e m = BR at *
        generalize rM e m = RM at *
        generalize rB e m = RB at *
        have HR5 := Lib.hid (show Row wr (p + 1) 0 ((X 0).map (Value.int .u8)) by rw [HX0.out]; exact HR4.out)
        clear HR4 HX0
        go_wp2
        go_loopw [6, 7] (fun mm kk wr2 => ∃ k : Nat, k ≤ 3 ∧ kk = .int .i64 k ∧ mm = .int .u32 (RM k) ∧ Keeps w wr2 ∧ Row wr2 p 0 (nm_zero32.map (Value.int .u8)) ∧ Row wr2 (p + 1) 0 ((X k).map (Value.int .u8)) ∧ BR k = false) (fun _ kk _ => (3 - intOf kk).toNat)
        case atStart => exact ⟨0, by omega, rfl, rfl, HK.out, HR2.out, HR5.out, HBZ.out⟩
        case round =>
          obtain ⟨k, hk, rfl, rfl, hkw, hr2, hr4, hb⟩ := hrel
          have H2 := Lib.hid hr2; have HK2 := Lib.hid hkw
          clear hr2 hkw HR2 HR5 HK
          by_cases hlt3 : k < 3
          · obtain ⟨d0, d1⟩ := HRR.out k
            have hds := HRS.out k
            have hrb := HRB.out k
            have hl9 := HXL.out k
            have hbs := HBS.out k
            rw [hb, Bool.false_or] at hbs
            have hq1 : (RM k).tdiv 256 = RM k / 256 := Int.tdiv_eq_ediv_of_nonneg d0
            have hq2 : (RM k).tmod 256 = RB k := by rw [Int.tmod_eq_emod_of_nonneg d0, hrb]
            have hc0 : 0 ≤ RB k := by omega
            have hc1 : RB k < 256 := by omega
            have HDS2 := Lib.hid hds; have HBS2 := Lib.hid hbs
            clear hds hrb hbs hb
            by_cases hA : E + k ≤ 34
            · obtain ⟨q, hq⟩ : ∃ q : Nat, q = 34 - E - k := ⟨_, rfl⟩
              have c4 := hr4.int0 q (by omega)
              have f4 := hr4.free0 q (by rw [List.length_map]; omega)
              have hs4 := hr4.setInt0 q (by omega) (RB k)
              rw [HXS.out k q (by omega) hlt3] at hs4
              have hfb : BR (k + 1) = false := by rw [HBS2.out, decide_eq_false (by omega)]; rfl
              have H4 := Lib.hid hs4; have HFB := Lib.hid hfb
              clear hs4 hr4 hfb
              generalize (X k).getD q 0 = old at *
              generalize RM k = d at *
              generalize RB k = c at *
              have hidx : (31 : Int) - ((E : Int) - 3) - (k : Int) = (q : Int) := by omega
              have hq32 : q < 32 := by omega
              clear hq hA
              go_wp2
              all_goals first | exact ⟨⟨k + 1, by omega, by simp, by rw [HDS2.out], keeps_set HK2.out (by omega) _, H2.out.other (by simp) _, H4.out, HFB.out⟩, by simp [intOf]; omega⟩ | (rename_i hz; subst hz; exact ⟨⟨k + 1, by omega, by simp, by rw [HDS2.out], keeps_set HK2.out (by omega) _, H2.out.other (by simp) _, H4.out, HFB.out⟩, by simp [intOf]; omega⟩)
            · have hlt4 : (31 : Int) - ((E : Int) - 3) - (k : Int) < 0 := by omega
              have hout := HXO.out k (by omega)
              have H4 := Lib.hid hr4
              clear hr4
              by_cases hc : RB k = 0
              · have hfb : BR (k + 1) = false := by rw [HBS2.out, hc]; simp
                have H5 := Lib.hid (show Row wr (p + 1) 0 ((X (k + 1)).map (Value.int .u8)) by rw [← hout]; exact H4.out)
                have HFB := Lib.hid hfb
                rw [hc] at hq2
                clear hfb hout H4 hc0 hc1
                generalize RM k = d at *
                generalize (31 : Int) - ((E : Int) - 3) - (k : Int) = at' at *
                go_wp2
                exact ⟨⟨k + 1, by omega, by simp, by rw [HDS2.out], HK2.out, H2.out, H5.out, HFB.out⟩, by simp [intOf]; omega⟩
              · have hfb : BR 3 = true := HBM.out (k + 1) 3 (by omega) (by rw [HBS2.out, decide_eq_true (by omega)]; simpa using hc)
                have hd : (RB k != 0) = true := by simpa using hc
                obtain ⟨hq3, hq4⟩ := HB2.out hfb
                have HQ1 := Lib.hid hq3; have HQ2 := Lib.hid hq4
                clear hq3 hq4 hfb hout
                generalize RM k = d at *
                generalize RB k = c at *
                go_wp2_with (refine wpList_store_row rfl 23 (.tmp 2) (.tmp 44) rfl p 0 rfl _ (nm_zero32.map (Value.int .u8)) rfl H2.out (by simp) (sz_a32 nm_zero32 hz9) (int_oneCell _) ?_; intro w9 hr9 hc9; have H9 := Lib.hid hr9; have HC9 := Lib.hid hc9; clear hr9 hc9)
                exact bodyPost_ret (v := .tuple #[.agg (nm_zero32.map (Value.int .u8)).toArray, .bool false]) (results_cell_tmpB (p := 2) (t := 3) (ty := 23) rfl _ _ p 0 _ _ _ rfl rfl H9.out Tryd.underlying23 rfl (sz_a32 nm_zero32 hz9)) rfl ⟨by rw [HQ1.out, HQ2.out], nm_keeps_chg HK2.out HC9.out (by omega)⟩
          · obtain rfl : k = 3 := by omega
            have hl9 := HXL.out 3
            have hlim := rlimit_any
            have hless := less_any limitB (X 3) limitB_bytes HXB.out limitB_length hl9
            have hE := fun W => equal_bytes W 23 32 Tryd.underlying23 (X 3) nm_zero32 HXB.out nm_zero32_bytes hl9 hz9
            have hc3 := HC2.out hb
            have hd3 := HD2.out hb
            have H4 := Lib.hid hr4
            clear hr4 HB2 HC2 HD2 HXO HBZ HBM HRS HRR HXS HBS HRB HXL HXB hb
            generalize X 3 = R at *
            generalize be R = RV at *
            generalize be limitB = LV at *
            generalize limitB = LB at *
            have HLIM := Lib.hid hlim; have HE := Lib.hid hE; have HC3 := Lib.hid hc3; have HD3 := Lib.hid hd3
            clear hlim hE hc3 hd3
            go_upto_region 19 with (fail)
            by_cases hR : R = nm_zero32
            · obtain ⟨hq3, hq4⟩ := HC3.out (.inl hR)
              have HQ1 := Lib.hid hq3; have HQ2 := Lib.hid hq4
              have HLESS := Lib.hid hless
              clear hq3 hq4 hless
              have hE1 : ∀ W, (Op.equalIn 10000 23 (.agg (R.map (Value.int .u8)).toArray) (.agg (nm_zero32.map (Value.int .u8)).toArray)).run Tryd.prog W = .ok true W := fun W => by
                rw [HE.out W, decide_eq_true hR]
              have HE1 := Lib.hid hE1
              clear hE1
              refine wp_region_quiet_below (by kernel_rfl) (by kernel_rfl) ?_
              repeat (first | go_big_quiet_skip | (refine BigFrame.wpQuiet_want (by kernel_rfl) (fun K hK => quiet_load_row 23 (.tmp 4) (by with_reducible rfl) (p + 1) 0 rfl (R.map (Value.int .u8)) _ (H4.out).cls Tryd.underlying23 rfl (sz_a32 R hl9) (hK _ ?_)); simp only [Act.put, List.setIfInBounds_toArray, List.set_cons_zero, List.set_cons_succ]) | (refine BigFrame.wpQuiet_want (by kernel_rfl) (fun K hK => quiet_eql 23 23 (.tmp 50) (.tmp 51) (by with_reducible rfl) _ _ rfl rfl _ (HE1.out) (by kernel_rfl) (hK _ ?_)); simp only [Act.put, List.setIfInBounds_toArray, List.set_cons_zero, List.set_cons_succ]) | go_big_quiet_step (first | (go_at_call 83; exact rgB (HLIM.out _)) | (go_at_call 37; exact rgB (HLESS.out _))) | quiet_step (first | (go_at_call 83; exact rgB (HLIM.out _)) | (go_at_call 37; exact rgB (HLESS.out _))))
              refine wpQuiet_nil ?_
              intro _ hw'
              obtain ⟨⟨dq, osq⟩, hw''⟩ := hw'
              subst hw''
              have hkq := below_regrown wr dq osq
              generalize Go.Sort.grow (redrawn wr dq) osq = wq at *
              have H2q := Lib.hid (H2.out.keeps hkq)
              have H4q := Lib.hid (H4.out.keeps hkq)
              go_wp2_with (refine wpList_store_row rfl 23 (.tmp 2) (.tmp 58) rfl p 0 rfl _ (nm_zero32.map (Value.int .u8)) rfl H2q.out (by simp) (sz_a32 nm_zero32 hz9) (int_oneCell _) ?_; intro w9 hr9 hc9; have H9 := Lib.hid hr9; have HC9 := Lib.hid hc9; clear hr9 hc9)
              exact bodyPost_ret (v := .tuple #[.agg (nm_zero32.map (Value.int .u8)).toArray, .bool false]) (results_cell_tmpB (p := 2) (t := 3) (ty := 23) rfl _ _ p 0 _ _ _ rfl rfl H9.out Tryd.underlying23 rfl (sz_a32 nm_zero32 hz9)) rfl ⟨by rw [HQ1.out, HQ2.out], nm_keeps_chg (HK2.out.trans hkq) HC9.out (by omega)⟩
            · by_cases hG : LV < RV
              · obtain ⟨hq3, hq4⟩ := HC3.out (.inr hG)
                rw [decide_eq_true hG] at hless
                have HQ1 := Lib.hid hq3; have HQ2 := Lib.hid hq4
                have HLESS := Lib.hid hless
                clear hq3 hq4 hless
                have hE1 : ∀ W, (Op.equalIn 10000 23 (.agg (R.map (Value.int .u8)).toArray) (.agg (nm_zero32.map (Value.int .u8)).toArray)).run Tryd.prog W = .ok false W := fun W => by
                  rw [HE.out W, decide_eq_false hR]
                have HE1 := Lib.hid hE1
                clear hE1
                refine wp_region_quiet_below (by kernel_rfl) (by kernel_rfl) ?_
                repeat (first | go_big_quiet_skip | (refine BigFrame.wpQuiet_want (by kernel_rfl) (fun K hK => quiet_load_row 23 (.tmp 4) (by with_reducible rfl) (p + 1) 0 rfl (R.map (Value.int .u8)) _ (H4.out).cls Tryd.underlying23 rfl (sz_a32 R hl9) (hK _ ?_)); simp only [Act.put, List.setIfInBounds_toArray, List.set_cons_zero, List.set_cons_succ]) | (refine BigFrame.wpQuiet_want (by kernel_rfl) (fun K hK => quiet_eql 23 23 (.tmp 50) (.tmp 51) (by with_reducible rfl) _ _ rfl rfl _ (HE1.out) (by kernel_rfl) (hK _ ?_)); simp only [Act.put, List.setIfInBounds_toArray, List.set_cons_zero, List.set_cons_succ]) | go_big_quiet_step (first | (go_at_call 83; exact rgB (HLIM.out _)) | (go_at_call 37; exact rgB (HLESS.out _))) | quiet_step (first | (go_at_call 83; exact rgB (HLIM.out _)) | (go_at_call 37; exact rgB (HLESS.out _))))
                refine wpQuiet_nil ?_
                intro _ hw'
                obtain ⟨⟨dq, osq⟩, hw''⟩ := hw'
                subst hw''
                have hkq := below_regrown wr dq osq
                generalize Go.Sort.grow (redrawn wr dq) osq = wq at *
                have H2q := Lib.hid (H2.out.keeps hkq)
                have H4q := Lib.hid (H4.out.keeps hkq)
                go_wp2_with (refine wpList_store_row rfl 23 (.tmp 2) (.tmp 58) rfl p 0 rfl _ (nm_zero32.map (Value.int .u8)) rfl H2q.out (by simp) (sz_a32 nm_zero32 hz9) (int_oneCell _) ?_; intro w9 hr9 hc9; have H9 := Lib.hid hr9; have HC9 := Lib.hid hc9; clear hr9 hc9)
                exact bodyPost_ret (v := .tuple #[.agg (nm_zero32.map (Value.int .u8)).toArray, .bool false]) (results_cell_tmpB (p := 2) (t := 3) (ty := 23) rfl _ _ p 0 _ _ _ rfl rfl H9.out Tryd.underlying23 rfl (sz_a32 nm_zero32 hz9)) rfl ⟨by rw [HQ1.out, HQ2.out], nm_keeps_chg (HK2.out.trans hkq) HC9.out (by omega)⟩
              · obtain ⟨hq3, hq4⟩ := HD3.out (fun h => h.elim hR hG)
                rw [decide_eq_false hG] at hless
                have HQ1 := Lib.hid hq3; have HQ2 := Lib.hid hq4
                have HLESS := Lib.hid hless
                clear hq3 hq4 hless
                have hE1 : ∀ W, (Op.equalIn 10000 23 (.agg (R.map (Value.int .u8)).toArray) (.agg (nm_zero32.map (Value.int .u8)).toArray)).run Tryd.prog W = .ok false W := fun W => by
                  rw [HE.out W, decide_eq_false hR]
                have HE1 := Lib.hid hE1
                clear hE1
                refine wp_region_quiet_below (by kernel_rfl) (by kernel_rfl) ?_
                repeat (first | go_big_quiet_skip | (refine BigFrame.wpQuiet_want (by kernel_rfl) (fun K hK => quiet_load_row 23 (.tmp 4) (by with_reducible rfl) (p + 1) 0 rfl (R.map (Value.int .u8)) _ (H4.out).cls Tryd.underlying23 rfl (sz_a32 R hl9) (hK _ ?_)); simp only [Act.put, List.setIfInBounds_toArray, List.set_cons_zero, List.set_cons_succ]) | (refine BigFrame.wpQuiet_want (by kernel_rfl) (fun K hK => quiet_eql 23 23 (.tmp 50) (.tmp 51) (by with_reducible rfl) _ _ rfl rfl _ (HE1.out) (by kernel_rfl) (hK _ ?_)); simp only [Act.put, List.setIfInBounds_toArray, List.set_cons_zero, List.set_cons_succ]) | go_big_quiet_step (first | (go_at_call 83; exact rgB (HLIM.out _)) | (go_at_call 37; exact rgB (HLESS.out _))) | quiet_step (first | (go_at_call 83; exact rgB (HLIM.out _)) | (go_at_call 37; exact rgB (HLESS.out _))))
                refine wpQuiet_nil ?_
                intro _ hw'
                obtain ⟨⟨dq, osq⟩, hw''⟩ := hw'
                subst hw''
                have hkq := below_regrown wr dq osq
                generalize Go.Sort.grow (redrawn wr dq) osq = wq at *
                have H2q := Lib.hid (H2.out.keeps hkq)
                have H4q := Lib.hid (H4.out.keeps hkq)
                go_wp2_with (first | (refine wpList_load_at rfl 23 (.tmp 4) rfl (p + 1) 0 rfl (R.map (Value.int .u8)) _ H4q.out Tryd.underlying23 rfl (sz_a32 R hl9) ?_) | (refine wpList_store_row rfl 23 (.tmp 2) (.tmp 59) rfl p 0 rfl _ (R.map (Value.int .u8)) rfl H2q.out (by simp [hl9, hz9]) (sz_a32 R hl9) (int_oneCell _) ?_; intro w9 hr9 hc9; have H9 := Lib.hid hr9; have HC9 := Lib.hid hc9; clear hr9 hc9))
                exact bodyPost_ret (v := .tuple #[.agg (R.map (Value.int .u8)).toArray, .bool true]) (results_cell_tmpB (p := 2) (t := 3) (ty := 23) rfl _ _ p 0 _ _ _ rfl rfl H9.out Tryd.underlying23 rfl (sz_a32 R hl9)) rfl ⟨by rw [HQ1.out, HQ2.out], nm_keeps_chg (HK2.out.trans hkq) HC9.out (by omega)⟩
end Go.Proofs.YtclhjlkgmeofcaaDoor
