/- The reference's times and shared. -/
import Derived.Test.YtdcoiniecmeglaaDoorNumSpec5
import Derived.Test.YtdcoiniecmeglaaDoorRefDbl
namespace Go.Proofs.YtdcoiniecmeglaaDoor
set_option linter.unusedVariables false
set_option linter.unusedSimpArgs false
open Go Go.RowKit

def zero36 : List Int := List.replicate 36 0
theorem zero36_length : zero36.length = 36 := by simp [zero36]
theorem sz_a36 (l : List Int) (h : l.length = 36) : (Tryd.prog.info? 69).map (·.size) = some (l.map (Value.int .u8)).length := by rw [List.length_map, h]; kernel_rfl
theorem toB36_getD (V : Int) (i : Nat) (h : i < 36) : (toB 36 V).getD i 0 = V / 256 ^ (35 - i) % 256 := by
  rw [toB_getD _ _ _ h]
set_option maxRecDepth 100000 in
set_option maxHeartbeats 4000000 in
theorem times_any (l : List Int) (hb : Bytes l) (hl : l.length = 32) (n : Int) (hn0 : 0 < n) (hn1 : n ≤ 19200) (w : World) :
    Calls Tryd.prog 37 #[.agg (l.map (Value.int .u8)).toArray, .int .i64 n] w fun e w' => e = .returned (.agg ((toB 36 (be l * n)).map (Value.int .u8)).toArray) ∧ Keeps w w' := by
  have hr := be_range hb
  rw [hl] at hr
  have HBK := Lib.hid (fun i hi => byteK_be hb hl i hi)
  have HHI := Lib.hid (fun k hk => byteK_high (A := be l) hr.1 (by unfold N256; exact hr.2) k hk)
  have HTB := Lib.hid (toB36_getD (be l * n))
  have HST := Lib.hid (tc_step (be l) n)
  have HCR := Lib.hid (tc_range (be l) hn0)
  have HC0 := Lib.hid (tc_zero (be l) n)
  have HBR := Lib.hid (byteK_range (be l))
  have hbl := toB_length 36 (be l * n)
  have hz9 := zero36_length
  clear hr
  generalize toB 36 (be l * n) = RR at *
  generalize tc (be l) n = C at *
  generalize byteK (be l) = B at *
  have HM1 := Lib.hid (fun i hi => mixB_length (i := i) hz9 hbl hi)
  have HM3 := Lib.hid (fun i hi => mixB_set (i := i) hz9 hbl hi)
  have HM4 := Lib.hid (mixB_full RR hz9 hbl)
  have HM5 := Lib.hid (mixB_zero zero36 RR)
  generalize mixB zero36 RR = M at *
  go_enter Tryd.func37, Tryd.ntmps37
  go_upto_region 2 with (fail)
  refine wp_rows3 (fun W hk hra hrz hrm hs => ?_)
  obtain ⟨p, hp⟩ : ∃ p, p = w.heap.size := ⟨_, rfl⟩
  rw [← hp] at hra hrz hrm hs ⊢
  have hkp : w.heap.size ≤ p := by omega
  have HRA := Lib.hid (show Row W p 0 (l.map (Value.int .u8)) from hra); have HRZ := Lib.hid (show Row W (p + 1) 0 (zero36.map (Value.int .u8)) from hrz); have HRM := Lib.hid (show Row W (p + 1 + 1) 0 ((M 36).map (Value.int .u8)) by rw [HM4.out]; exact hrm); have HK := Lib.hid hk
  clear hs hra hrz hrm hk hp
  go_wp2
  go_loopw [6, 7] (fun cc c wr => ∃ n : Nat, n ≤ 36 ∧ c = .int .i64 ((n : Int) - 1) ∧ cc = .int .i64 (C (36 - n)) ∧ Keeps w wr ∧ Row wr p 0 (l.map (Value.int .u8)) ∧ Row wr (p + 1) 0 (zero36.map (Value.int .u8)) ∧ Row wr (p + 1 + 1) 0 ((M n).map (Value.int .u8))) (fun _ c _ => (intOf c + 1).toNat)
  case atStart => exact ⟨36, by omega, rfl, by rw [Nat.sub_self, HC0.out], HK.out, HRA.out, HRZ.out, HRM.out⟩
  case round =>
    obtain ⟨m, hm, rfl, rfl, hk, hra, hrz, hrm⟩ := hrel
    cases m with
    | zero =>
      rw [HM5.out] at hrm
      rw [show ((0 : Nat) : Int) - 1 = -1 by rfl, show 36 - 0 = 36 by rfl]
      generalize C 36 = c at *
      have H2 := Lib.hid hrm; have H4 := Lib.hid hrz; have HK2 := Lib.hid hk
      clear hra hrz hrm hk
      go_wp2_with (first | (refine wpList_load_at rfl 69 (.tmp 5) rfl (p + 1 + 1) 0 rfl (RR.map (Value.int .u8)) _ H2.out Tryd.underlying69 rfl (sz_a36 RR hbl) ?_) | (refine wpList_store_row rfl 69 (.tmp 4) (.tmp 32) rfl (p + 1) 0 rfl _ (RR.map (Value.int .u8)) rfl H4.out (by simp [hbl, hz9]) (sz_a36 RR hbl) (int_oneCell _) ?_; intro w9 hr9 hc9; have H9 := Lib.hid hr9; have HC9 := Lib.hid hc9; clear hr9 hc9))
      exact bodyPost_ret (v := .agg (RR.map (Value.int .u8)).toArray) (results_cell_at (p := 4) (ty := 69) rfl _ _ (p + 1) 0 _ _ rfl H9.out Tryd.underlying69 rfl (sz_a36 RR hbl)) rfl ⟨rfl, keeps_chg HK2.out HC9.out (by omega)⟩
    | succ i =>
      rw [show ((i + 1 : Nat) : Int) - 1 = (i : Int) by omega, show 36 - (i + 1) = 35 - i by omega]
      have hi : i < 36 := by omega
      obtain ⟨s1, s2⟩ := HST.out (35 - i)
      obtain ⟨c0, c2⟩ := HCR.out (35 - i)
      obtain ⟨b0, b1⟩ := HBR.out (35 - i)
      have f1 := hrm.free0 i (by rw [List.length_map, HM1.out _ hm]; exact hi)
      have c1 := hrm.int0 i (by rw [HM1.out _ hm]; exact hi)
      have hset := hrm.wset i (by rw [HM1.out _ hm]; exact hi) (RR.getD i 0)
      rw [HM3.out i hi, HTB.out i hi, ← s2] at hset
      rw [show 35 - i + 1 = 36 - i by omega] at s1
      generalize (M (i + 1)).getD i 0 = old at *
      by_cases h4 : 4 ≤ i
      · obtain ⟨j, rfl⟩ : ∃ j, i = j + 4 := ⟨i - 4, by omega⟩
        have ca := hra.int0 j (by omega)
        rw [HBK.out j (by omega), show 31 - j = 35 - (j + 4) by omega] at ca
        have hB0 : 0 ≤ B (35 - (j + 4)) * n := Int.mul_nonneg b0 (by omega)
        have hB1 : B (35 - (j + 4)) * n ≤ 255 * 19200 := Int.mul_le_mul (by omega) hn1 (by omega) (by omega)
        have HS1 := Lib.hid s1
        clear s1 s2 hrm
        generalize B (35 - (j + 4)) = b at *
        generalize C (35 - (j + 4)) = c at *
        have t1 : (c + b * n).tmod 256 = (c + b * n) % 256 := Int.tmod_eq_emod_of_nonneg (by omega)
        have t2 : (c + b * n).tdiv 256 = (c + b * n) / 256 := Int.tdiv_eq_ediv_of_nonneg (by omega)
        have w1 : IntKind.i64.wrap (b * n) = b * n := by rw [IntKind.wrap_i64]; omega
        have w2 : IntKind.i64.wrap (c + b * n) = c + b * n := by rw [IntKind.wrap_i64]; omega
        have w3 : IntKind.u8.wrap ((c + b * n) % 256) = (c + b * n) % 256 := by rw [IntKind.wrap_u8]; omega
        have HSET := Lib.hid hset; have HRA := Lib.hid hra; have HRZ := Lib.hid hrz; have HK2 := Lib.hid hk
        clear hset hra hrz hk
        go_wp2
        exact ⟨⟨j + 4, by omega, by go_num, by rw [HS1.out], keeps_set HK2.out (by omega) _, HRA.out.other (by simp; omega) _, HRZ.out.other (by simp) _, HSET.out⟩, by simp [intOf]; omega⟩
      · have hz : B (35 - i) = 0 := HHI.out _ (by omega)
        rw [hz, Int.zero_mul, Int.add_zero] at s1 hset
        have h4' : (i : Int) < 4 := by omega
        have HS1 := Lib.hid s1
        clear s1 s2 hrm hz b0 b1
        generalize C (35 - i) = c at *
        have t1 : c.tmod 256 = c % 256 := Int.tmod_eq_emod_of_nonneg (by omega)
        have t2 : c.tdiv 256 = c / 256 := Int.tdiv_eq_ediv_of_nonneg (by omega)
        have w3 : IntKind.u8.wrap (c % 256) = c % 256 := by rw [IntKind.wrap_u8]; omega
        have HSET := Lib.hid hset; have HRA := Lib.hid hra; have HRZ := Lib.hid hrz; have HK2 := Lib.hid hk
        clear hset hra hrz hk
        go_wp2
        exact ⟨⟨i, by omega, by go_num, by rw [HS1.out], keeps_set HK2.out (by omega) _, HRA.out.other (by simp; omega) _, HRZ.out.other (by simp) _, HSET.out⟩, by simp [intOf]⟩
set_option maxRecDepth 100000 in
set_option maxHeartbeats 4000000 in
theorem shared_any (l : List Int) (hb : Bytes l) (hl : l.length = 36) (w : World) :
    Calls Tryd.prog 36 #[.agg (l.map (Value.int .u8)).toArray, .int .i64 4800] w fun e w' => e = .returned (.tuple #[.agg ((toB 32 (be l / 4800)).map (Value.int .u8)).toArray, .bool (decide (be l / 4800 < N256))]) ∧ Keeps w w' := by
  have hr := be_range hb
  rw [hl] at hr
  have HBK := Lib.hid (fun i (hi : i < 36) => show l.getD i 0 = be l / 256 ^ (35 - i) % 256 by
    have := toB36_getD (be l) i hi
    rwa [toB_be' hb hl] at this)
  have HTB := Lib.hid (fun i (hi : i < 32) => show (toB 32 (be l / 4800)).getD i 0 = sdig (be l) (i + 4) by
    rw [toB_getD _ _ _ hi, sdig, show 35 - (i + 4) = 32 - 1 - i by omega])
  have HST := Lib.hid (srest_step (be l))
  have HSR := Lib.hid (srest_range (be l))
  have HS0 := Lib.hid (srest_zero hr.1 hr.2)
  have HDR := Lib.hid (sdig_range (be l))
  have HF0 := Lib.hid (fitsB_zero hr.1 hr.2)
  have HF1 := Lib.hid (fitsB_step hr.1)
  have HF2 := Lib.hid (fun i h => show fitsB (be l) (i + 1) = fitsB (be l) i by rw [fitsB_late hr.1 i h, fitsB_late hr.1 (i + 1) (by omega)])
  have HF3 := Lib.hid (fitsB_late hr.1 36 (by omega))
  have hbl := toB_length 32 (be l / 4800)
  have hz9 := zero32_length
  clear hr
  generalize decide (be l / 4800 < N256) = FT at *
  generalize toB 32 (be l / 4800) = RR at *
  obtain ⟨A, hA⟩ : ∃ A : Nat → Int, ∀ i, A i = be l / 256 ^ (35 - i) % 256 := ⟨_, fun _ => rfl⟩
  have HAR := Lib.hid (fun i => show 0 ≤ A i ∧ A i < 256 by rw [hA]; omega)
  simp only [← hA] at HBK HST
  clear hA
  generalize srest (be l) = C at *
  generalize sdig (be l) = D at *
  generalize fitsB (be l) = F at *
  have HM1 := Lib.hid (fun i hi => mixB_length (i := i) hbl hz9 hi)
  have HM3 := Lib.hid (fun i hi => mixB_up (i := i) hbl hz9 hi)
  have HM4 := Lib.hid (mixB_full zero32 hbl hz9)
  have HM5 := Lib.hid (mixB_zero RR zero32)
  generalize mixB RR zero32 = M at *
  go_enter Tryd.func36, Tryd.ntmps36
  go_upto_region 2 with (fail)
  refine wp_rows3 (fun W hk hra hrz hrm hs => ?_)
  obtain ⟨p, hp⟩ : ∃ p, p = w.heap.size := ⟨_, rfl⟩
  rw [← hp] at hra hrz hrm hs ⊢
  have hkp : w.heap.size ≤ p := by omega
  have HRA := Lib.hid (show Row W p 0 (l.map (Value.int .u8)) from hra); have HRZ := Lib.hid (show Row W (p + 1) 0 (zero32.map (Value.int .u8)) from hrz); have HRM := Lib.hid (show Row W (p + 1 + 1) 0 ((M (0 - 4)).map (Value.int .u8)) by rw [show 0 - 4 = 0 from rfl, HM5.out]; exact hrm); have HK := Lib.hid hk
  clear hs hra hrz hrm hk hp
  go_wp2
  go_loopw [7, 8, 9] (fun c f k wr => ∃ i : Nat, i ≤ 36 ∧ k = .int .i64 (i : Int) ∧ c = .int .i64 (C i) ∧ f = .bool (F i) ∧ Keeps w wr ∧ Row wr p 0 (l.map (Value.int .u8)) ∧ Row wr (p + 1) 0 (zero32.map (Value.int .u8)) ∧ Row wr (p + 1 + 1) 0 ((M (i - 4)).map (Value.int .u8))) (fun _ _ k _ => (36 - intOf k).toNat)
  case atStart => exact ⟨0, by omega, rfl, by rw [HS0.out], by rw [HF0.out], HK.out, HRA.out, HRZ.out, HRM.out⟩
  case round =>
    obtain ⟨i, hi, rfl, rfl, rfl, hk, hra, hrz, hrm⟩ := hrel
    by_cases he : i = 36
    · subst he
      rw [show 36 - 4 = 32 from rfl, HM4.out] at hrm
      rw [HF3.out, show ((36 : Nat) : Int) = 36 from rfl]
      generalize C 36 = c at *
      have H2 := Lib.hid hrm; have H4 := Lib.hid hrz; have HK2 := Lib.hid hk
      clear hra hrz hrm hk
      go_wp2_with (first | (refine wpList_load_at rfl 22 (.tmp 6) rfl (p + 1 + 1) 0 rfl (RR.map (Value.int .u8)) _ H2.out Tryd.underlying22 rfl (sz_a32 RR hbl) ?_) | (refine wpList_store_row rfl 22 (.tmp 4) (.tmp 38) rfl (p + 1) 0 rfl _ (RR.map (Value.int .u8)) rfl H4.out (by simp [hbl, hz9]) (sz_a32 RR hbl) (int_oneCell _) ?_; intro w9 hr9 hc9; have H9 := Lib.hid hr9; have HC9 := Lib.hid hc9; clear hr9 hc9))
      exact bodyPost_ret (v := .tuple #[.agg (RR.map (Value.int .u8)).toArray, .bool FT]) (results_cell_tmpB (p := 4) (t := 5) (ty := 22) rfl _ _ (p + 1) 0 _ _ _ rfl rfl H9.out Tryd.underlying22 rfl (sz_a32 RR hbl)) rfl ⟨rfl, keeps_chg HK2.out HC9.out (by omega)⟩
    · have hi2 : i < 36 := by omega
      have hi3 : (i : Int) < 36 := by omega
      obtain ⟨s1, s2⟩ := HST.out i hi2
      obtain ⟨c0, c2⟩ := HSR.out i
      obtain ⟨a0, a1⟩ := HAR.out i
      obtain ⟨d0, d1⟩ := HDR.out i
      have ca := hra.int0 i (by omega)
      rw [HBK.out i hi2] at ca
      by_cases h4 : 4 ≤ i
      · obtain ⟨j, rfl⟩ : ∃ j, i = j + 4 := ⟨i - 4, by omega⟩
        have hf := HF2.out (j + 4) h4
        rw [show j + 4 - 4 = j by omega] at hrm
        have f1 := hrm.free0 j (by rw [List.length_map, HM1.out _ (by omega)]; omega)
        have c1 := hrm.int0 j (by rw [HM1.out _ (by omega)]; omega)
        have hset := hrm.wset j (by rw [HM1.out _ (by omega)]; omega) (RR.getD j 0)
        rw [HM3.out j (by omega), HTB.out j (by omega)] at hset
        generalize (M j).getD j 0 = old at *
        have HF := Lib.hid hf
        clear hf hrm
        generalize F (j + 4) = f at *
        have HS2 := Lib.hid s2
        clear s2
        generalize C (j + 4) = c at *
        generalize A (j + 4) = a at *
        generalize D (j + 4) = d at *
        have t1 : (c * 256 + a).tmod 4800 = (c * 256 + a) % 4800 := Int.tmod_eq_emod_of_nonneg (by omega)
        have t2 : (c * 256 + a).tdiv 4800 = d := by rw [Int.tdiv_eq_ediv_of_nonneg (by omega), s1]
        have w3 : IntKind.u8.wrap d = d := by rw [IntKind.wrap_u8]; omega
        have HSET := Lib.hid hset; have HRA := Lib.hid hra; have HRZ := Lib.hid hrz; have HK2 := Lib.hid hk
        clear hset hra hrz hk s1
        go_wp2
        exact ⟨⟨j + 4 + 1, by omega, by go_num, by rw [HS2.out], by rw [HF.out], keeps_set HK2.out (by omega) _, HRA.out.other (by simp; omega) _, HRZ.out.other (by simp) _, by rw [show j + 4 + 1 - 4 = j + 1 by omega]; exact HSET.out⟩, by simp [intOf]; omega⟩
      · have hf := HF1.out i (by omega)
        have h4' : (i : Int) < 4 := by omega
        rw [show i - 4 = i + 1 - 4 by omega] at hrm
        have HS2 := Lib.hid s2
        clear s2
        have HM := Lib.hid hrm; have HRA := Lib.hid hra; have HRZ := Lib.hid hrz; have HK2 := Lib.hid hk
        clear hrm hra hrz hk
        generalize C i = c at *
        generalize A i = a at *
        generalize D i = d at *
        have t1 : (c * 256 + a).tmod 4800 = (c * 256 + a) % 4800 := Int.tmod_eq_emod_of_nonneg (by omega)
        have t2 : (c * 256 + a).tdiv 4800 = d := by rw [Int.tdiv_eq_ediv_of_nonneg (by omega), s1]
        clear s1
        by_cases hd : d > 0
        · rw [decide_eq_true hd, Bool.not_true, Bool.and_false] at hf
          have HF := Lib.hid hf
          clear hf
          go_wp2
          exact ⟨⟨i + 1, by omega, by go_num, by rw [HS2.out], by rw [HF.out], HK2.out, HRA.out, HRZ.out, HM.out⟩, by simp [intOf]; omega⟩
        · rw [decide_eq_false hd, Bool.not_false, Bool.and_true] at hf
          have hd' : d = 0 := by omega
          subst hd'
          have HF := Lib.hid hf
          clear hf hd
          generalize F i = f at *
          go_wp2
          exact ⟨⟨i + 1, by omega, by go_num, by rw [HS2.out], by rw [HF.out], HK2.out, HRA.out, HRZ.out, HM.out⟩, by simp [intOf]; omega⟩
end Go.Proofs.YtdcoiniecmeglaaDoor
