/- curve's group: add, every way. No condition. -/
import Derived.Test.YtlofddoojkeakaaDoorGC1
namespace Go.Proofs.YtlofddoojkeakaaDoor
set_option linter.unusedVariables false
set_option linter.unusedSimpArgs false
open Go Go.RowKit Cv

set_option maxRecDepth 100000 in
set_option maxHeartbeats 16000000 in
theorem addsame_walk (gg : Nat) (X Y Z U V T C1 C2 C3 C4 C5 C6 C7 C8 C9 C10 PT PU RT : List Int) (hPT : PT = X ++ Y ++ Z) (hPU : PU = U ++ V ++ T) (lRT : RT.length = 12) (lX : X.length = 4) (lY : Y.length = 4) (lZ : Z.length = 4) (lU : U.length = 4) (lV : V.length = 4) (lT : T.length = 4) (lC1 : C1.length = 4) (lC2 : C2.length = 4) (lC3 : C3.length = 4) (lC4 : C4.length = 4) (lC5 : C5.length = 4) (lC6 : C6.length = 4) (lC7 : C7.length = 4) (lC8 : C8.length = 4) (lC9 : C9.length = 4) (lC10 : C10.length = 4) (w : World)
    (hinf : ∀ g W, Row W g 0 (PT.map (Value.int .u64)) → Calls Tryd.prog 43 #[.pointer (some ⟨g, 0, none⟩)] W fun e w' => e = .returned (.bool false) ∧ Keeps W w')
    (hinf2 : ∀ g W, Row W g 0 (PU.map (Value.int .u64)) → Calls Tryd.prog 43 #[.pointer (some ⟨g, 0, none⟩)] W fun e w' => e = .returned (.bool false) ∧ Keeps W w')
    (hzro : ∀ W, Calls Tryd.prog 38 #[.agg (C9.map (Value.int .u64)).toArray] W fun e w' => e = .returned (.bool true) ∧ Keeps W w')
    (hzr2 : ∀ W, Calls Tryd.prog 38 #[.agg (C10.map (Value.int .u64)).toArray] W fun e w' => e = .returned (.bool true) ∧ Keeps W w')
    (hdbl : ∀ W, Keeps w W → Calls Tryd.prog 69 #[.pointer (some ⟨gg, 0, none⟩), .agg (PT.map (Value.int .u64)).toArray] W fun e w' => e = .returned (.agg (RT.map (Value.int .u64)).toArray) ∧ Keeps W w')
    (h1 : ∀ W, Keeps w W → Calls Tryd.prog 67 #[.pointer (some ⟨gg, 0, none⟩), .agg (Z.map (Value.int .u64)).toArray, .agg (Z.map (Value.int .u64)).toArray] W fun e w' => e = .returned (.agg (C1.map (Value.int .u64)).toArray) ∧ Keeps W w') (h2 : ∀ W, Keeps w W → Calls Tryd.prog 67 #[.pointer (some ⟨gg, 0, none⟩), .agg (T.map (Value.int .u64)).toArray, .agg (T.map (Value.int .u64)).toArray] W fun e w' => e = .returned (.agg (C2.map (Value.int .u64)).toArray) ∧ Keeps W w') (h3 : ∀ W, Keeps w W → Calls Tryd.prog 67 #[.pointer (some ⟨gg, 0, none⟩), .agg (X.map (Value.int .u64)).toArray, .agg (C2.map (Value.int .u64)).toArray] W fun e w' => e = .returned (.agg (C3.map (Value.int .u64)).toArray) ∧ Keeps W w') (h4 : ∀ W, Keeps w W → Calls Tryd.prog 67 #[.pointer (some ⟨gg, 0, none⟩), .agg (U.map (Value.int .u64)).toArray, .agg (C1.map (Value.int .u64)).toArray] W fun e w' => e = .returned (.agg (C4.map (Value.int .u64)).toArray) ∧ Keeps W w') (h5 : ∀ W, Keeps w W → Calls Tryd.prog 67 #[.pointer (some ⟨gg, 0, none⟩), .agg (T.map (Value.int .u64)).toArray, .agg (C2.map (Value.int .u64)).toArray] W fun e w' => e = .returned (.agg (C5.map (Value.int .u64)).toArray) ∧ Keeps W w') (h6 : ∀ W, Keeps w W → Calls Tryd.prog 67 #[.pointer (some ⟨gg, 0, none⟩), .agg (Y.map (Value.int .u64)).toArray, .agg (C5.map (Value.int .u64)).toArray] W fun e w' => e = .returned (.agg (C6.map (Value.int .u64)).toArray) ∧ Keeps W w') (h7 : ∀ W, Keeps w W → Calls Tryd.prog 67 #[.pointer (some ⟨gg, 0, none⟩), .agg (Z.map (Value.int .u64)).toArray, .agg (C1.map (Value.int .u64)).toArray] W fun e w' => e = .returned (.agg (C7.map (Value.int .u64)).toArray) ∧ Keeps W w') (h8 : ∀ W, Keeps w W → Calls Tryd.prog 67 #[.pointer (some ⟨gg, 0, none⟩), .agg (V.map (Value.int .u64)).toArray, .agg (C7.map (Value.int .u64)).toArray] W fun e w' => e = .returned (.agg (C8.map (Value.int .u64)).toArray) ∧ Keeps W w') (h9 : ∀ W, Keeps w W → Calls Tryd.prog 68 #[.pointer (some ⟨gg, 0, none⟩), .agg (C4.map (Value.int .u64)).toArray, .agg (C3.map (Value.int .u64)).toArray] W fun e w' => e = .returned (.agg (C9.map (Value.int .u64)).toArray) ∧ Keeps W w') (h10 : ∀ W, Keeps w W → Calls Tryd.prog 68 #[.pointer (some ⟨gg, 0, none⟩), .agg (C8.map (Value.int .u64)).toArray, .agg (C6.map (Value.int .u64)).toArray] W fun e w' => e = .returned (.agg (C10.map (Value.int .u64)).toArray) ∧ Keeps W w') :
    Calls Tryd.prog 40 #[.pointer (some ⟨gg, 0, none⟩), .agg (PT.map (Value.int .u64)).toArray, .agg (PU.map (Value.int .u64)).toArray] w fun e w' => e = .returned (.agg (RT.map (Value.int .u64)).toArray) ∧ Keeps w w' := by
  have HC1 := Lib.hid h1; clear h1
  have HC2 := Lib.hid h2; clear h2
  have HC3 := Lib.hid h3; clear h3
  have HC4 := Lib.hid h4; clear h4
  have HC5 := Lib.hid h5; clear h5
  have HC6 := Lib.hid h6; clear h6
  have HC7 := Lib.hid h7; clear h7
  have HC8 := Lib.hid h8; clear h8
  have HC9 := Lib.hid h9; clear h9
  have HC10 := Lib.hid h10; clear h10
  have HINF := Lib.hid hinf; clear hinf
  have HINF2 := Lib.hid hinf2; clear hinf2
  have HZRO := Lib.hid hzro; clear hzro
  have HZR2 := Lib.hid hzr2; clear hzr2
  have lPT : PT.length = 12 := by rw [hPT]; exact len3 lX lY lZ
  have lPU : PU.length = 12 := by rw [hPU]; exact len3 lU lV lT
  have HPT := Lib.hid hPT
  have HPU := Lib.hid hPU
  clear hPT hPU
  go_enter Tryd.func40, Tryd.ntmps40
  go_upto_region 1 with (fail)
  refine wp_rows3 (fun W hk hra hrb hrc hs => ?_)
  obtain ⟨p, hp⟩ : ∃ p, p = w.heap.size := ⟨_, rfl⟩
  rw [← hp] at hra hrb hrc hs ⊢
  have hkp : w.heap.size ≤ p := by omega
  obtain ⟨Zr, hZr, hrz⟩ : ∃ Zr : List Value, Zr.length = 4 + 4 + 4 ∧ Row W (p + 1 + 1) 0 Zr := ⟨_, rfl, hrc⟩
  have HRA := Lib.hid (show Row W p 0 (PT.map (Value.int .u64)) from hra)
  have HRB := Lib.hid (show Row W (p + 1) 0 (PU.map (Value.int .u64)) from hrb)
  have HKW := Lib.hid hk; have HRres := Lib.hid hrz
  clear hp hra hrb hrc hrz hk hs
  go_upto_region 4 with (go_at_call 43; refine (HINF.out p _ HRA.out).mono ?_; rintro e V1 ⟨rfl, hk1⟩; have HV1 := Lib.hid hk1; clear hk1)
  have HRA := Lib.hid (HRA.out.keeps HV1.out)
  have HRB := Lib.hid (HRB.out.keeps HV1.out)
  have HRres := Lib.hid (HRres.out.keeps HV1.out)
  have HKW := Lib.hid (HKW.out.trans HV1.out)
  go_upto_region 6 with (go_at_call 43; refine (HINF2.out (p + 1) _ HRB.out).mono ?_; rintro e V2 ⟨rfl, hk1⟩; have HV2 := Lib.hid hk1; clear hk1)
  have HRA := Lib.hid (HRA.out.keeps HV2.out)
  have HRB := Lib.hid (HRB.out.keeps HV2.out)
  have HRres := Lib.hid (HRres.out.keeps HV2.out)
  have HKW := Lib.hid (HKW.out.trans HV2.out)
  have HRX := Lib.hid (row3 lX lY lZ (by have h := HRA.out; rwa [HPT.out] at h)).1
  have HRY := Lib.hid (row3 lX lY lZ (by have h := HRA.out; rwa [HPT.out] at h)).2.1
  have HRZ := Lib.hid (row3 lX lY lZ (by have h := HRA.out; rwa [HPT.out] at h)).2.2
  have HRU := Lib.hid (row3 lU lV lT (by have h := HRB.out; rwa [HPU.out] at h)).1
  have HRV := Lib.hid (row3 lU lV lT (by have h := HRB.out; rwa [HPU.out] at h)).2.1
  have HRT := Lib.hid (row3 lU lV lT (by have h := HRB.out; rwa [HPU.out] at h)).2.2
  refine wp_region_keep 14 [12, 13] [0, 1, 2, 3, 4, 5, 6, 7, 8, 9, 10, 11] (fun _ => zeros4) (by kernel_rfl) (by kernel_rfl) (by intro i hi; simp only [List.mem_cons, List.not_mem_nil, or_false] at hi; (first | (rcases hi with rfl | rfl) | subst hi) <;> exact ⟨_, rfl, alloc_num rfl rfl⟩) ?_
  iterate 2 refine kp (h := ?_)
  refine kl (fun wS hS => (HRZ.out.keeps hS)) lZ (h := ?_)
  refine kp (h := ?_)
  refine kl (fun wS hS => (HRZ.out.keeps hS)) lZ (h := ?_)
  refine kc (hc := by exact fun wS hS => HC1.out wS (HKW.out.trans hS)) (h := ?_)
  iterate 2 refine kp (h := ?_)
  refine kl (fun wS hS => (HRT.out.keeps hS)) lT (h := ?_)
  refine kp (h := ?_)
  refine kl (fun wS hS => (HRT.out.keeps hS)) lT (h := ?_)
  refine kc (hc := by exact fun wS hS => HC2.out wS (HKW.out.trans hS)) (h := ?_)
  refine keep_nil ?_
  intro GG V1 hk1 hG
  obtain ⟨ha12, hz12, hd12⟩ := hG 12 (by simp)
  obtain ⟨ha13, hz13, hd13⟩ := hG 13 (by simp)
  have hne9 := hd12 13 (by simp) (by decide)
  clear hd12
  clear hd13
  simp only [putsA, dstAt, ptrV, kD, kG, kP, Option.bind_some]
  generalize GG 12 = g1 at *
  generalize GG 13 = g2 at *
  clear hG
  have HZ12 := Lib.hid hz12; have HB12 := Lib.hid (show _ ≤ _ from ha12)
  have HZ13 := Lib.hid hz13; have HB13 := Lib.hid (show _ ≤ _ from ha13)
  clear hz12 ha12
  clear hz13 ha13
  have HV1 := Lib.hid hk1; clear hk1
  go_upto_region 7 with (first | (refine ws (g := _) (olds := zeros4) HZ12.out lC1 rfl (h := ?_); intro W2 hr2 hc2; have HN1 := Lib.hid hr2; have HC1 := Lib.hid hc2; clear hr2 hc2) | (refine ws (g := _) (olds := zeros4) (HZ13.out.chg HC1.out (by omega)) lC2 rfl (h := ?_); intro W3 hr2 hc2; have HN2 := Lib.hid hr2; have HC2 := Lib.hid hc2; clear hr2 hc2))
  have HK2 := Lib.hid (nm_keeps_chg (nm_keeps_chg HV1.out HC1.out HB12.out) HC2.out HB13.out)
  have HN1 := Lib.hid (HN1.out.chg HC2.out (by omega))
  have hlt_res_g1 := Nat.lt_of_lt_of_le (HRres.out.lt (by intro e; rw [e] at hZr; cases hZr)) HB12.out
  have hlt_res_g2 := Nat.lt_of_lt_of_le (HRres.out.lt (by intro e; rw [e] at hZr; cases hZr)) HB13.out
  have HRA := Lib.hid (HRA.out.keeps HK2.out)
  have HRX := Lib.hid (HRX.out.keeps HK2.out)
  have HRY := Lib.hid (HRY.out.keeps HK2.out)
  have HRZ := Lib.hid (HRZ.out.keeps HK2.out)
  have HRB := Lib.hid (HRB.out.keeps HK2.out)
  have HRU := Lib.hid (HRU.out.keeps HK2.out)
  have HRV := Lib.hid (HRV.out.keeps HK2.out)
  have HRT := Lib.hid (HRT.out.keeps HK2.out)
  have HRres := Lib.hid (HRres.out.keeps HK2.out)
  have HKW := Lib.hid (HKW.out.trans HK2.out)
  have HRg1 := HN1
  have HRg2 := HN2
  refine wp_region_keep 12 [10, 11] [0, 1, 2, 3, 4, 5, 6, 7, 8, 9] (fun _ => zeros4) (by kernel_rfl) (by kernel_rfl) (by intro i hi; simp only [List.mem_cons, List.not_mem_nil, or_false] at hi; (first | (rcases hi with rfl | rfl) | subst hi) <;> exact ⟨_, rfl, alloc_num rfl rfl⟩) ?_
  iterate 2 refine kp (h := ?_)
  refine kl (fun wS hS => (HRX.out.keeps hS)) lX (h := ?_)
  refine kl (fun wS hS => (HRg2.out.keeps hS)) lC2 (h := ?_)
  refine kc (hc := by exact fun wS hS => HC3.out wS (HKW.out.trans hS)) (h := ?_)
  iterate 2 refine kp (h := ?_)
  refine kl (fun wS hS => (HRU.out.keeps hS)) lU (h := ?_)
  refine kl (fun wS hS => (HRg1.out.keeps hS)) lC1 (h := ?_)
  refine kc (hc := by exact fun wS hS => HC4.out wS (HKW.out.trans hS)) (h := ?_)
  refine keep_nil ?_
  intro GG V1 hk1 hG
  obtain ⟨ha10, hz10, hd10⟩ := hG 10 (by simp)
  obtain ⟨ha11, hz11, hd11⟩ := hG 11 (by simp)
  have hne9 := hd10 11 (by simp) (by decide)
  clear hd10
  clear hd11
  simp only [putsA, dstAt, ptrV, kD, kG, kP, Option.bind_some]
  generalize GG 10 = g3 at *
  generalize GG 11 = g4 at *
  clear hG
  have HZ10 := Lib.hid hz10; have HB10 := Lib.hid (show _ ≤ _ from ha10)
  have HZ11 := Lib.hid hz11; have HB11 := Lib.hid (show _ ≤ _ from ha11)
  clear hz10 ha10
  clear hz11 ha11
  have HV1 := Lib.hid hk1; clear hk1
  go_upto_region 8 with (first | (refine ws (g := _) (olds := zeros4) HZ10.out lC3 rfl (h := ?_); intro W2 hr2 hc2; have HN1 := Lib.hid hr2; have HC1 := Lib.hid hc2; clear hr2 hc2) | (refine ws (g := _) (olds := zeros4) (HZ11.out.chg HC1.out (by omega)) lC4 rfl (h := ?_); intro W3 hr2 hc2; have HN2 := Lib.hid hr2; have HC2 := Lib.hid hc2; clear hr2 hc2))
  have HK2 := Lib.hid (nm_keeps_chg (nm_keeps_chg HV1.out HC1.out HB10.out) HC2.out HB11.out)
  have HN1 := Lib.hid (HN1.out.chg HC2.out (by omega))
  have hlt_g1_g3 := Nat.lt_of_lt_of_le (HRg1.out.lt (map_ne lC1)) HB10.out
  have hlt_g2_g3 := Nat.lt_of_lt_of_le (HRg2.out.lt (map_ne lC2)) HB10.out
  have hlt_g1_g4 := Nat.lt_of_lt_of_le (HRg1.out.lt (map_ne lC1)) HB11.out
  have hlt_g2_g4 := Nat.lt_of_lt_of_le (HRg2.out.lt (map_ne lC2)) HB11.out
  have HRA := Lib.hid (HRA.out.keeps HK2.out)
  have HRX := Lib.hid (HRX.out.keeps HK2.out)
  have HRY := Lib.hid (HRY.out.keeps HK2.out)
  have HRZ := Lib.hid (HRZ.out.keeps HK2.out)
  have HRB := Lib.hid (HRB.out.keeps HK2.out)
  have HRU := Lib.hid (HRU.out.keeps HK2.out)
  have HRV := Lib.hid (HRV.out.keeps HK2.out)
  have HRT := Lib.hid (HRT.out.keeps HK2.out)
  have HRres := Lib.hid (HRres.out.keeps HK2.out)
  have HRg1 := Lib.hid (HRg1.out.keeps HK2.out)
  have HRg2 := Lib.hid (HRg2.out.keeps HK2.out)
  have HKW := Lib.hid (HKW.out.trans HK2.out)
  have HRg3 := HN1
  have HRg4 := HN2
  refine wp_region_keep 20 [18, 19] [0, 1, 2, 3, 4, 5, 6, 7, 8, 9, 10, 11, 12, 13, 14, 15, 16, 17] (fun _ => zeros4) (by kernel_rfl) (by kernel_rfl) (by intro i hi; simp only [List.mem_cons, List.not_mem_nil, or_false] at hi; (first | (rcases hi with rfl | rfl) | subst hi) <;> exact ⟨_, rfl, alloc_num rfl rfl⟩) ?_
  iterate 2 refine kp (h := ?_)
  refine kl (fun wS hS => (HRY.out.keeps hS)) lY (h := ?_)
  iterate 2 refine kp (h := ?_)
  refine kl (fun wS hS => (HRT.out.keeps hS)) lT (h := ?_)
  refine kl (fun wS hS => (HRg2.out.keeps hS)) lC2 (h := ?_)
  refine kc (hc := by exact fun wS hS => HC5.out wS (HKW.out.trans hS)) (h := ?_)
  refine kc (hc := by exact fun wS hS => HC6.out wS (HKW.out.trans hS)) (h := ?_)
  iterate 2 refine kp (h := ?_)
  refine kl (fun wS hS => (HRV.out.keeps hS)) lV (h := ?_)
  iterate 2 refine kp (h := ?_)
  refine kl (fun wS hS => (HRZ.out.keeps hS)) lZ (h := ?_)
  refine kl (fun wS hS => (HRg1.out.keeps hS)) lC1 (h := ?_)
  refine kc (hc := by exact fun wS hS => HC7.out wS (HKW.out.trans hS)) (h := ?_)
  refine kc (hc := by exact fun wS hS => HC8.out wS (HKW.out.trans hS)) (h := ?_)
  refine keep_nil ?_
  intro GG V1 hk1 hG
  obtain ⟨ha18, hz18, hd18⟩ := hG 18 (by simp)
  obtain ⟨ha19, hz19, hd19⟩ := hG 19 (by simp)
  have hne9 := hd18 19 (by simp) (by decide)
  clear hd18
  clear hd19
  simp only [putsA, dstAt, ptrV, kD, kG, kP, Option.bind_some]
  generalize GG 18 = g5 at *
  generalize GG 19 = g6 at *
  clear hG
  have HZ18 := Lib.hid hz18; have HB18 := Lib.hid (show _ ≤ _ from ha18)
  have HZ19 := Lib.hid hz19; have HB19 := Lib.hid (show _ ≤ _ from ha19)
  clear hz18 ha18
  clear hz19 ha19
  have HV1 := Lib.hid hk1; clear hk1
  go_upto_region 9 with (first | (refine ws (g := _) (olds := zeros4) HZ18.out lC6 rfl (h := ?_); intro W2 hr2 hc2; have HN1 := Lib.hid hr2; have HC1 := Lib.hid hc2; clear hr2 hc2) | (refine ws (g := _) (olds := zeros4) (HZ19.out.chg HC1.out (by omega)) lC8 rfl (h := ?_); intro W3 hr2 hc2; have HN2 := Lib.hid hr2; have HC2 := Lib.hid hc2; clear hr2 hc2))
  have HK2 := Lib.hid (nm_keeps_chg (nm_keeps_chg HV1.out HC1.out HB18.out) HC2.out HB19.out)
  have HN1 := Lib.hid (HN1.out.chg HC2.out (by omega))
  have hlt_g3_g5 := Nat.lt_of_lt_of_le (HRg3.out.lt (map_ne lC3)) HB18.out
  have hlt_g4_g5 := Nat.lt_of_lt_of_le (HRg4.out.lt (map_ne lC4)) HB18.out
  have hlt_g3_g6 := Nat.lt_of_lt_of_le (HRg3.out.lt (map_ne lC3)) HB19.out
  have hlt_g4_g6 := Nat.lt_of_lt_of_le (HRg4.out.lt (map_ne lC4)) HB19.out
  have HRA := Lib.hid (HRA.out.keeps HK2.out)
  have HRX := Lib.hid (HRX.out.keeps HK2.out)
  have HRY := Lib.hid (HRY.out.keeps HK2.out)
  have HRZ := Lib.hid (HRZ.out.keeps HK2.out)
  have HRB := Lib.hid (HRB.out.keeps HK2.out)
  have HRU := Lib.hid (HRU.out.keeps HK2.out)
  have HRV := Lib.hid (HRV.out.keeps HK2.out)
  have HRT := Lib.hid (HRT.out.keeps HK2.out)
  have HRres := Lib.hid (HRres.out.keeps HK2.out)
  have HRg1 := Lib.hid (HRg1.out.keeps HK2.out)
  have HRg2 := Lib.hid (HRg2.out.keeps HK2.out)
  have HRg3 := Lib.hid (HRg3.out.keeps HK2.out)
  have HRg4 := Lib.hid (HRg4.out.keeps HK2.out)
  have HKW := Lib.hid (HKW.out.trans HK2.out)
  have HRg5 := HN1
  have HRg6 := HN2
  refine wp_region_keep 10 [8, 9] [0, 1, 2, 3, 4, 5, 6, 7] (fun _ => zeros4) (by kernel_rfl) (by kernel_rfl) (by intro i hi; simp only [List.mem_cons, List.not_mem_nil, or_false] at hi; (first | (rcases hi with rfl | rfl) | subst hi) <;> exact ⟨_, rfl, alloc_num rfl rfl⟩) ?_
  refine kp (h := ?_)
  refine kl (fun wS hS => (HRg4.out.keeps hS)) lC4 (h := ?_)
  refine kl (fun wS hS => (HRg3.out.keeps hS)) lC3 (h := ?_)
  refine kc (hc := by exact fun wS hS => HC9.out wS (HKW.out.trans hS)) (h := ?_)
  refine kp (h := ?_)
  refine kl (fun wS hS => (HRg6.out.keeps hS)) lC8 (h := ?_)
  refine kl (fun wS hS => (HRg5.out.keeps hS)) lC6 (h := ?_)
  refine kc (hc := by exact fun wS hS => HC10.out wS (HKW.out.trans hS)) (h := ?_)
  refine keep_nil ?_
  intro GG V1 hk1 hG
  obtain ⟨ha8, hz8, hd8⟩ := hG 8 (by simp)
  obtain ⟨ha9, hz9, hd9⟩ := hG 9 (by simp)
  have hne9 := hd8 9 (by simp) (by decide)
  clear hd8
  clear hd9
  simp only [putsA, dstAt, ptrV, kD, kG, kP, Option.bind_some]
  generalize GG 8 = g7 at *
  generalize GG 9 = g8 at *
  clear hG
  have HZ8 := Lib.hid hz8; have HB8 := Lib.hid (show _ ≤ _ from ha8)
  have HZ9 := Lib.hid hz9; have HB9 := Lib.hid (show _ ≤ _ from ha9)
  clear hz8 ha8
  clear hz9 ha9
  have HV1 := Lib.hid hk1; clear hk1
  go_upto_region 10 with (first | (refine ws (g := _) (olds := zeros4) HZ8.out lC9 rfl (h := ?_); intro W2 hr2 hc2; have HN1 := Lib.hid hr2; have HC1 := Lib.hid hc2; clear hr2 hc2) | (refine ws (g := _) (olds := zeros4) (HZ9.out.chg HC1.out (by omega)) lC10 rfl (h := ?_); intro W3 hr2 hc2; have HN2 := Lib.hid hr2; have HC2 := Lib.hid hc2; clear hr2 hc2))
  have HK2 := Lib.hid (nm_keeps_chg (nm_keeps_chg HV1.out HC1.out HB8.out) HC2.out HB9.out)
  have HN1 := Lib.hid (HN1.out.chg HC2.out (by omega))
  have hlt_g5_g7 := Nat.lt_of_lt_of_le (HRg5.out.lt (map_ne lC6)) HB8.out
  have hlt_g6_g7 := Nat.lt_of_lt_of_le (HRg6.out.lt (map_ne lC8)) HB8.out
  have hlt_g5_g8 := Nat.lt_of_lt_of_le (HRg5.out.lt (map_ne lC6)) HB9.out
  have hlt_g6_g8 := Nat.lt_of_lt_of_le (HRg6.out.lt (map_ne lC8)) HB9.out
  have HRA := Lib.hid (HRA.out.keeps HK2.out)
  have HRX := Lib.hid (HRX.out.keeps HK2.out)
  have HRY := Lib.hid (HRY.out.keeps HK2.out)
  have HRZ := Lib.hid (HRZ.out.keeps HK2.out)
  have HRB := Lib.hid (HRB.out.keeps HK2.out)
  have HRU := Lib.hid (HRU.out.keeps HK2.out)
  have HRV := Lib.hid (HRV.out.keeps HK2.out)
  have HRT := Lib.hid (HRT.out.keeps HK2.out)
  have HRres := Lib.hid (HRres.out.keeps HK2.out)
  have HRg1 := Lib.hid (HRg1.out.keeps HK2.out)
  have HRg2 := Lib.hid (HRg2.out.keeps HK2.out)
  have HRg3 := Lib.hid (HRg3.out.keeps HK2.out)
  have HRg4 := Lib.hid (HRg4.out.keeps HK2.out)
  have HRg5 := Lib.hid (HRg5.out.keeps HK2.out)
  have HRg6 := Lib.hid (HRg6.out.keeps HK2.out)
  have HKW := Lib.hid (HKW.out.trans HK2.out)
  have HRg7 := HN1
  have HRg8 := HN2
  have HDB := Lib.hid hdbl; clear hdbl
  go_upto_region 11 with (first | (refine wl HRg7.out lC9 (h := ?_)) | (go_at_call 38; refine (HZRO.out _).mono ?_; rintro e V1 ⟨rfl, hk1⟩; have HV1 := Lib.hid hk1; clear hk1))
  go_upto_region 12 with (first | (refine wl (HRg8.out.keeps HV1.out) lC10 (h := ?_)) | (go_at_call 38; refine (HZR2.out _).mono ?_; rintro e V2 ⟨rfl, hk1⟩; have HV2 := Lib.hid hk1; clear hk1))
  have HRA := Lib.hid ((HRA.out.keeps HV1.out).keeps HV2.out)
  have HRres := Lib.hid ((HRres.out.keeps HV1.out).keeps HV2.out)
  have HKW := Lib.hid ((HKW.out.trans HV1.out).trans HV2.out)
  go_wp2_with (first | (refine wl HRA.out lPT (h := ?_)) | (go_at_call 69; refine (HDB.out _ HKW.out).mono ?_; rintro e V3 ⟨rfl, hk1⟩; have HV3 := Lib.hid hk1; clear hk1) | (refine ws (HRres.out.keeps HV3.out) lRT (by rw [hZr]) (h := ?_); intro W2 hr2 hc2; have HN := Lib.hid hr2; have HC := Lib.hid hc2; clear hr2 hc2))
  exact bodyPost_ret (results_cell_at (p := 6) (ty := 76) rfl _ _ (p + 1 + 1) 0 _ _ rfl HN.out Tryd.underlying76 rfl (by rw [List.length_map, lRT]; exact sz_cpt)) rfl ⟨rfl, nm_keeps_chg (HKW.out.trans HV3.out) HC.out (by omega)⟩
set_option maxRecDepth 100000 in
set_option maxHeartbeats 16000000 in
theorem addopp_walk (gg : Nat) (X Y Z U V T C1 C2 C3 C4 C5 C6 C7 C8 C9 C10 PT PU : List Int) (hPT : PT = X ++ Y ++ Z) (hPU : PU = U ++ V ++ T) (lX : X.length = 4) (lY : Y.length = 4) (lZ : Z.length = 4) (lU : U.length = 4) (lV : V.length = 4) (lT : T.length = 4) (lC1 : C1.length = 4) (lC2 : C2.length = 4) (lC3 : C3.length = 4) (lC4 : C4.length = 4) (lC5 : C5.length = 4) (lC6 : C6.length = 4) (lC7 : C7.length = 4) (lC8 : C8.length = 4) (lC9 : C9.length = 4) (lC10 : C10.length = 4) (w : World)
    (hinf : ∀ g W, Row W g 0 (PT.map (Value.int .u64)) → Calls Tryd.prog 43 #[.pointer (some ⟨g, 0, none⟩)] W fun e w' => e = .returned (.bool false) ∧ Keeps W w')
    (hinf2 : ∀ g W, Row W g 0 (PU.map (Value.int .u64)) → Calls Tryd.prog 43 #[.pointer (some ⟨g, 0, none⟩)] W fun e w' => e = .returned (.bool false) ∧ Keeps W w')
    (hzro : ∀ W, Calls Tryd.prog 38 #[.agg (C9.map (Value.int .u64)).toArray] W fun e w' => e = .returned (.bool true) ∧ Keeps W w')
    (hzr2 : ∀ W, Calls Tryd.prog 38 #[.agg (C10.map (Value.int .u64)).toArray] W fun e w' => e = .returned (.bool false) ∧ Keeps W w')
    (h1 : ∀ W, Keeps w W → Calls Tryd.prog 67 #[.pointer (some ⟨gg, 0, none⟩), .agg (Z.map (Value.int .u64)).toArray, .agg (Z.map (Value.int .u64)).toArray] W fun e w' => e = .returned (.agg (C1.map (Value.int .u64)).toArray) ∧ Keeps W w') (h2 : ∀ W, Keeps w W → Calls Tryd.prog 67 #[.pointer (some ⟨gg, 0, none⟩), .agg (T.map (Value.int .u64)).toArray, .agg (T.map (Value.int .u64)).toArray] W fun e w' => e = .returned (.agg (C2.map (Value.int .u64)).toArray) ∧ Keeps W w') (h3 : ∀ W, Keeps w W → Calls Tryd.prog 67 #[.pointer (some ⟨gg, 0, none⟩), .agg (X.map (Value.int .u64)).toArray, .agg (C2.map (Value.int .u64)).toArray] W fun e w' => e = .returned (.agg (C3.map (Value.int .u64)).toArray) ∧ Keeps W w') (h4 : ∀ W, Keeps w W → Calls Tryd.prog 67 #[.pointer (some ⟨gg, 0, none⟩), .agg (U.map (Value.int .u64)).toArray, .agg (C1.map (Value.int .u64)).toArray] W fun e w' => e = .returned (.agg (C4.map (Value.int .u64)).toArray) ∧ Keeps W w') (h5 : ∀ W, Keeps w W → Calls Tryd.prog 67 #[.pointer (some ⟨gg, 0, none⟩), .agg (T.map (Value.int .u64)).toArray, .agg (C2.map (Value.int .u64)).toArray] W fun e w' => e = .returned (.agg (C5.map (Value.int .u64)).toArray) ∧ Keeps W w') (h6 : ∀ W, Keeps w W → Calls Tryd.prog 67 #[.pointer (some ⟨gg, 0, none⟩), .agg (Y.map (Value.int .u64)).toArray, .agg (C5.map (Value.int .u64)).toArray] W fun e w' => e = .returned (.agg (C6.map (Value.int .u64)).toArray) ∧ Keeps W w') (h7 : ∀ W, Keeps w W → Calls Tryd.prog 67 #[.pointer (some ⟨gg, 0, none⟩), .agg (Z.map (Value.int .u64)).toArray, .agg (C1.map (Value.int .u64)).toArray] W fun e w' => e = .returned (.agg (C7.map (Value.int .u64)).toArray) ∧ Keeps W w') (h8 : ∀ W, Keeps w W → Calls Tryd.prog 67 #[.pointer (some ⟨gg, 0, none⟩), .agg (V.map (Value.int .u64)).toArray, .agg (C7.map (Value.int .u64)).toArray] W fun e w' => e = .returned (.agg (C8.map (Value.int .u64)).toArray) ∧ Keeps W w') (h9 : ∀ W, Keeps w W → Calls Tryd.prog 68 #[.pointer (some ⟨gg, 0, none⟩), .agg (C4.map (Value.int .u64)).toArray, .agg (C3.map (Value.int .u64)).toArray] W fun e w' => e = .returned (.agg (C9.map (Value.int .u64)).toArray) ∧ Keeps W w') (h10 : ∀ W, Keeps w W → Calls Tryd.prog 68 #[.pointer (some ⟨gg, 0, none⟩), .agg (C8.map (Value.int .u64)).toArray, .agg (C6.map (Value.int .u64)).toArray] W fun e w' => e = .returned (.agg (C10.map (Value.int .u64)).toArray) ∧ Keeps W w') :
    Calls Tryd.prog 40 #[.pointer (some ⟨gg, 0, none⟩), .agg (PT.map (Value.int .u64)).toArray, .agg (PU.map (Value.int .u64)).toArray] w fun e w' => e = .returned (.agg ((List.replicate 12 (0 : Int)).map (Value.int .u64)).toArray) ∧ Keeps w w' := by
  have HC1 := Lib.hid h1; clear h1
  have HC2 := Lib.hid h2; clear h2
  have HC3 := Lib.hid h3; clear h3
  have HC4 := Lib.hid h4; clear h4
  have HC5 := Lib.hid h5; clear h5
  have HC6 := Lib.hid h6; clear h6
  have HC7 := Lib.hid h7; clear h7
  have HC8 := Lib.hid h8; clear h8
  have HC9 := Lib.hid h9; clear h9
  have HC10 := Lib.hid h10; clear h10
  have HINF := Lib.hid hinf; clear hinf
  have HINF2 := Lib.hid hinf2; clear hinf2
  have HZRO := Lib.hid hzro; clear hzro
  have HZR2 := Lib.hid hzr2; clear hzr2
  have lPT : PT.length = 12 := by rw [hPT]; exact len3 lX lY lZ
  have lPU : PU.length = 12 := by rw [hPU]; exact len3 lU lV lT
  have HPT := Lib.hid hPT
  have HPU := Lib.hid hPU
  clear hPT hPU
  go_enter Tryd.func40, Tryd.ntmps40
  go_upto_region 1 with (fail)
  refine wp_rows3 (fun W hk hra hrb hrc hs => ?_)
  obtain ⟨p, hp⟩ : ∃ p, p = w.heap.size := ⟨_, rfl⟩
  rw [← hp] at hra hrb hrc hs ⊢
  have hkp : w.heap.size ≤ p := by omega
  obtain ⟨Zr, hZr, hrz⟩ : ∃ Zr : List Value, Zr.length = 4 + 4 + 4 ∧ Row W (p + 1 + 1) 0 Zr := ⟨_, rfl, hrc⟩
  have HRA := Lib.hid (show Row W p 0 (PT.map (Value.int .u64)) from hra)
  have HRB := Lib.hid (show Row W (p + 1) 0 (PU.map (Value.int .u64)) from hrb)
  have HKW := Lib.hid hk; have HRres := Lib.hid hrz
  clear hp hra hrb hrc hrz hk hs
  go_upto_region 4 with (go_at_call 43; refine (HINF.out p _ HRA.out).mono ?_; rintro e V1 ⟨rfl, hk1⟩; have HV1 := Lib.hid hk1; clear hk1)
  have HRA := Lib.hid (HRA.out.keeps HV1.out)
  have HRB := Lib.hid (HRB.out.keeps HV1.out)
  have HRres := Lib.hid (HRres.out.keeps HV1.out)
  have HKW := Lib.hid (HKW.out.trans HV1.out)
  go_upto_region 6 with (go_at_call 43; refine (HINF2.out (p + 1) _ HRB.out).mono ?_; rintro e V2 ⟨rfl, hk1⟩; have HV2 := Lib.hid hk1; clear hk1)
  have HRA := Lib.hid (HRA.out.keeps HV2.out)
  have HRB := Lib.hid (HRB.out.keeps HV2.out)
  have HRres := Lib.hid (HRres.out.keeps HV2.out)
  have HKW := Lib.hid (HKW.out.trans HV2.out)
  have HRX := Lib.hid (row3 lX lY lZ (by have h := HRA.out; rwa [HPT.out] at h)).1
  have HRY := Lib.hid (row3 lX lY lZ (by have h := HRA.out; rwa [HPT.out] at h)).2.1
  have HRZ := Lib.hid (row3 lX lY lZ (by have h := HRA.out; rwa [HPT.out] at h)).2.2
  have HRU := Lib.hid (row3 lU lV lT (by have h := HRB.out; rwa [HPU.out] at h)).1
  have HRV := Lib.hid (row3 lU lV lT (by have h := HRB.out; rwa [HPU.out] at h)).2.1
  have HRT := Lib.hid (row3 lU lV lT (by have h := HRB.out; rwa [HPU.out] at h)).2.2
  refine wp_region_keep 14 [12, 13] [0, 1, 2, 3, 4, 5, 6, 7, 8, 9, 10, 11] (fun _ => zeros4) (by kernel_rfl) (by kernel_rfl) (by intro i hi; simp only [List.mem_cons, List.not_mem_nil, or_false] at hi; (first | (rcases hi with rfl | rfl) | subst hi) <;> exact ⟨_, rfl, alloc_num rfl rfl⟩) ?_
  iterate 2 refine kp (h := ?_)
  refine kl (fun wS hS => (HRZ.out.keeps hS)) lZ (h := ?_)
  refine kp (h := ?_)
  refine kl (fun wS hS => (HRZ.out.keeps hS)) lZ (h := ?_)
  refine kc (hc := by exact fun wS hS => HC1.out wS (HKW.out.trans hS)) (h := ?_)
  iterate 2 refine kp (h := ?_)
  refine kl (fun wS hS => (HRT.out.keeps hS)) lT (h := ?_)
  refine kp (h := ?_)
  refine kl (fun wS hS => (HRT.out.keeps hS)) lT (h := ?_)
  refine kc (hc := by exact fun wS hS => HC2.out wS (HKW.out.trans hS)) (h := ?_)
  refine keep_nil ?_
  intro GG V1 hk1 hG
  obtain ⟨ha12, hz12, hd12⟩ := hG 12 (by simp)
  obtain ⟨ha13, hz13, hd13⟩ := hG 13 (by simp)
  have hne9 := hd12 13 (by simp) (by decide)
  clear hd12
  clear hd13
  simp only [putsA, dstAt, ptrV, kD, kG, kP, Option.bind_some]
  generalize GG 12 = g1 at *
  generalize GG 13 = g2 at *
  clear hG
  have HZ12 := Lib.hid hz12; have HB12 := Lib.hid (show _ ≤ _ from ha12)
  have HZ13 := Lib.hid hz13; have HB13 := Lib.hid (show _ ≤ _ from ha13)
  clear hz12 ha12
  clear hz13 ha13
  have HV1 := Lib.hid hk1; clear hk1
  go_upto_region 7 with (first | (refine ws (g := _) (olds := zeros4) HZ12.out lC1 rfl (h := ?_); intro W2 hr2 hc2; have HN1 := Lib.hid hr2; have HC1 := Lib.hid hc2; clear hr2 hc2) | (refine ws (g := _) (olds := zeros4) (HZ13.out.chg HC1.out (by omega)) lC2 rfl (h := ?_); intro W3 hr2 hc2; have HN2 := Lib.hid hr2; have HC2 := Lib.hid hc2; clear hr2 hc2))
  have HK2 := Lib.hid (nm_keeps_chg (nm_keeps_chg HV1.out HC1.out HB12.out) HC2.out HB13.out)
  have HN1 := Lib.hid (HN1.out.chg HC2.out (by omega))
  have hlt_res_g1 := Nat.lt_of_lt_of_le (HRres.out.lt (by intro e; rw [e] at hZr; cases hZr)) HB12.out
  have hlt_res_g2 := Nat.lt_of_lt_of_le (HRres.out.lt (by intro e; rw [e] at hZr; cases hZr)) HB13.out
  have HRA := Lib.hid (HRA.out.keeps HK2.out)
  have HRX := Lib.hid (HRX.out.keeps HK2.out)
  have HRY := Lib.hid (HRY.out.keeps HK2.out)
  have HRZ := Lib.hid (HRZ.out.keeps HK2.out)
  have HRB := Lib.hid (HRB.out.keeps HK2.out)
  have HRU := Lib.hid (HRU.out.keeps HK2.out)
  have HRV := Lib.hid (HRV.out.keeps HK2.out)
  have HRT := Lib.hid (HRT.out.keeps HK2.out)
  have HRres := Lib.hid (HRres.out.keeps HK2.out)
  have HKW := Lib.hid (HKW.out.trans HK2.out)
  have HRg1 := HN1
  have HRg2 := HN2
  refine wp_region_keep 12 [10, 11] [0, 1, 2, 3, 4, 5, 6, 7, 8, 9] (fun _ => zeros4) (by kernel_rfl) (by kernel_rfl) (by intro i hi; simp only [List.mem_cons, List.not_mem_nil, or_false] at hi; (first | (rcases hi with rfl | rfl) | subst hi) <;> exact ⟨_, rfl, alloc_num rfl rfl⟩) ?_
  iterate 2 refine kp (h := ?_)
  refine kl (fun wS hS => (HRX.out.keeps hS)) lX (h := ?_)
  refine kl (fun wS hS => (HRg2.out.keeps hS)) lC2 (h := ?_)
  refine kc (hc := by exact fun wS hS => HC3.out wS (HKW.out.trans hS)) (h := ?_)
  iterate 2 refine kp (h := ?_)
  refine kl (fun wS hS => (HRU.out.keeps hS)) lU (h := ?_)
  refine kl (fun wS hS => (HRg1.out.keeps hS)) lC1 (h := ?_)
  refine kc (hc := by exact fun wS hS => HC4.out wS (HKW.out.trans hS)) (h := ?_)
  refine keep_nil ?_
  intro GG V1 hk1 hG
  obtain ⟨ha10, hz10, hd10⟩ := hG 10 (by simp)
  obtain ⟨ha11, hz11, hd11⟩ := hG 11 (by simp)
  have hne9 := hd10 11 (by simp) (by decide)
  clear hd10
  clear hd11
  simp only [putsA, dstAt, ptrV, kD, kG, kP, Option.bind_some]
  generalize GG 10 = g3 at *
  generalize GG 11 = g4 at *
  clear hG
  have HZ10 := Lib.hid hz10; have HB10 := Lib.hid (show _ ≤ _ from ha10)
  have HZ11 := Lib.hid hz11; have HB11 := Lib.hid (show _ ≤ _ from ha11)
  clear hz10 ha10
  clear hz11 ha11
  have HV1 := Lib.hid hk1; clear hk1
  go_upto_region 8 with (first | (refine ws (g := _) (olds := zeros4) HZ10.out lC3 rfl (h := ?_); intro W2 hr2 hc2; have HN1 := Lib.hid hr2; have HC1 := Lib.hid hc2; clear hr2 hc2) | (refine ws (g := _) (olds := zeros4) (HZ11.out.chg HC1.out (by omega)) lC4 rfl (h := ?_); intro W3 hr2 hc2; have HN2 := Lib.hid hr2; have HC2 := Lib.hid hc2; clear hr2 hc2))
  have HK2 := Lib.hid (nm_keeps_chg (nm_keeps_chg HV1.out HC1.out HB10.out) HC2.out HB11.out)
  have HN1 := Lib.hid (HN1.out.chg HC2.out (by omega))
  have hlt_g1_g3 := Nat.lt_of_lt_of_le (HRg1.out.lt (map_ne lC1)) HB10.out
  have hlt_g2_g3 := Nat.lt_of_lt_of_le (HRg2.out.lt (map_ne lC2)) HB10.out
  have hlt_g1_g4 := Nat.lt_of_lt_of_le (HRg1.out.lt (map_ne lC1)) HB11.out
  have hlt_g2_g4 := Nat.lt_of_lt_of_le (HRg2.out.lt (map_ne lC2)) HB11.out
  have HRA := Lib.hid (HRA.out.keeps HK2.out)
  have HRX := Lib.hid (HRX.out.keeps HK2.out)
  have HRY := Lib.hid (HRY.out.keeps HK2.out)
  have HRZ := Lib.hid (HRZ.out.keeps HK2.out)
  have HRB := Lib.hid (HRB.out.keeps HK2.out)
  have HRU := Lib.hid (HRU.out.keeps HK2.out)
  have HRV := Lib.hid (HRV.out.keeps HK2.out)
  have HRT := Lib.hid (HRT.out.keeps HK2.out)
  have HRres := Lib.hid (HRres.out.keeps HK2.out)
  have HRg1 := Lib.hid (HRg1.out.keeps HK2.out)
  have HRg2 := Lib.hid (HRg2.out.keeps HK2.out)
  have HKW := Lib.hid (HKW.out.trans HK2.out)
  have HRg3 := HN1
  have HRg4 := HN2
  refine wp_region_keep 20 [18, 19] [0, 1, 2, 3, 4, 5, 6, 7, 8, 9, 10, 11, 12, 13, 14, 15, 16, 17] (fun _ => zeros4) (by kernel_rfl) (by kernel_rfl) (by intro i hi; simp only [List.mem_cons, List.not_mem_nil, or_false] at hi; (first | (rcases hi with rfl | rfl) | subst hi) <;> exact ⟨_, rfl, alloc_num rfl rfl⟩) ?_
  iterate 2 refine kp (h := ?_)
  refine kl (fun wS hS => (HRY.out.keeps hS)) lY (h := ?_)
  iterate 2 refine kp (h := ?_)
  refine kl (fun wS hS => (HRT.out.keeps hS)) lT (h := ?_)
  refine kl (fun wS hS => (HRg2.out.keeps hS)) lC2 (h := ?_)
  refine kc (hc := by exact fun wS hS => HC5.out wS (HKW.out.trans hS)) (h := ?_)
  refine kc (hc := by exact fun wS hS => HC6.out wS (HKW.out.trans hS)) (h := ?_)
  iterate 2 refine kp (h := ?_)
  refine kl (fun wS hS => (HRV.out.keeps hS)) lV (h := ?_)
  iterate 2 refine kp (h := ?_)
  refine kl (fun wS hS => (HRZ.out.keeps hS)) lZ (h := ?_)
  refine kl (fun wS hS => (HRg1.out.keeps hS)) lC1 (h := ?_)
  refine kc (hc := by exact fun wS hS => HC7.out wS (HKW.out.trans hS)) (h := ?_)
  refine kc (hc := by exact fun wS hS => HC8.out wS (HKW.out.trans hS)) (h := ?_)
  refine keep_nil ?_
  intro GG V1 hk1 hG
  obtain ⟨ha18, hz18, hd18⟩ := hG 18 (by simp)
  obtain ⟨ha19, hz19, hd19⟩ := hG 19 (by simp)
  have hne9 := hd18 19 (by simp) (by decide)
  clear hd18
  clear hd19
  simp only [putsA, dstAt, ptrV, kD, kG, kP, Option.bind_some]
  generalize GG 18 = g5 at *
  generalize GG 19 = g6 at *
  clear hG
  have HZ18 := Lib.hid hz18; have HB18 := Lib.hid (show _ ≤ _ from ha18)
  have HZ19 := Lib.hid hz19; have HB19 := Lib.hid (show _ ≤ _ from ha19)
  clear hz18 ha18
  clear hz19 ha19
  have HV1 := Lib.hid hk1; clear hk1
  go_upto_region 9 with (first | (refine ws (g := _) (olds := zeros4) HZ18.out lC6 rfl (h := ?_); intro W2 hr2 hc2; have HN1 := Lib.hid hr2; have HC1 := Lib.hid hc2; clear hr2 hc2) | (refine ws (g := _) (olds := zeros4) (HZ19.out.chg HC1.out (by omega)) lC8 rfl (h := ?_); intro W3 hr2 hc2; have HN2 := Lib.hid hr2; have HC2 := Lib.hid hc2; clear hr2 hc2))
  have HK2 := Lib.hid (nm_keeps_chg (nm_keeps_chg HV1.out HC1.out HB18.out) HC2.out HB19.out)
  have HN1 := Lib.hid (HN1.out.chg HC2.out (by omega))
  have hlt_g3_g5 := Nat.lt_of_lt_of_le (HRg3.out.lt (map_ne lC3)) HB18.out
  have hlt_g4_g5 := Nat.lt_of_lt_of_le (HRg4.out.lt (map_ne lC4)) HB18.out
  have hlt_g3_g6 := Nat.lt_of_lt_of_le (HRg3.out.lt (map_ne lC3)) HB19.out
  have hlt_g4_g6 := Nat.lt_of_lt_of_le (HRg4.out.lt (map_ne lC4)) HB19.out
  have HRA := Lib.hid (HRA.out.keeps HK2.out)
  have HRX := Lib.hid (HRX.out.keeps HK2.out)
  have HRY := Lib.hid (HRY.out.keeps HK2.out)
  have HRZ := Lib.hid (HRZ.out.keeps HK2.out)
  have HRB := Lib.hid (HRB.out.keeps HK2.out)
  have HRU := Lib.hid (HRU.out.keeps HK2.out)
  have HRV := Lib.hid (HRV.out.keeps HK2.out)
  have HRT := Lib.hid (HRT.out.keeps HK2.out)
  have HRres := Lib.hid (HRres.out.keeps HK2.out)
  have HRg1 := Lib.hid (HRg1.out.keeps HK2.out)
  have HRg2 := Lib.hid (HRg2.out.keeps HK2.out)
  have HRg3 := Lib.hid (HRg3.out.keeps HK2.out)
  have HRg4 := Lib.hid (HRg4.out.keeps HK2.out)
  have HKW := Lib.hid (HKW.out.trans HK2.out)
  have HRg5 := HN1
  have HRg6 := HN2
  refine wp_region_keep 10 [8, 9] [0, 1, 2, 3, 4, 5, 6, 7] (fun _ => zeros4) (by kernel_rfl) (by kernel_rfl) (by intro i hi; simp only [List.mem_cons, List.not_mem_nil, or_false] at hi; (first | (rcases hi with rfl | rfl) | subst hi) <;> exact ⟨_, rfl, alloc_num rfl rfl⟩) ?_
  refine kp (h := ?_)
  refine kl (fun wS hS => (HRg4.out.keeps hS)) lC4 (h := ?_)
  refine kl (fun wS hS => (HRg3.out.keeps hS)) lC3 (h := ?_)
  refine kc (hc := by exact fun wS hS => HC9.out wS (HKW.out.trans hS)) (h := ?_)
  refine kp (h := ?_)
  refine kl (fun wS hS => (HRg6.out.keeps hS)) lC8 (h := ?_)
  refine kl (fun wS hS => (HRg5.out.keeps hS)) lC6 (h := ?_)
  refine kc (hc := by exact fun wS hS => HC10.out wS (HKW.out.trans hS)) (h := ?_)
  refine keep_nil ?_
  intro GG V1 hk1 hG
  obtain ⟨ha8, hz8, hd8⟩ := hG 8 (by simp)
  obtain ⟨ha9, hz9, hd9⟩ := hG 9 (by simp)
  have hne9 := hd8 9 (by simp) (by decide)
  clear hd8
  clear hd9
  simp only [putsA, dstAt, ptrV, kD, kG, kP, Option.bind_some]
  generalize GG 8 = g7 at *
  generalize GG 9 = g8 at *
  clear hG
  have HZ8 := Lib.hid hz8; have HB8 := Lib.hid (show _ ≤ _ from ha8)
  have HZ9 := Lib.hid hz9; have HB9 := Lib.hid (show _ ≤ _ from ha9)
  clear hz8 ha8
  clear hz9 ha9
  have HV1 := Lib.hid hk1; clear hk1
  go_upto_region 10 with (first | (refine ws (g := _) (olds := zeros4) HZ8.out lC9 rfl (h := ?_); intro W2 hr2 hc2; have HN1 := Lib.hid hr2; have HC1 := Lib.hid hc2; clear hr2 hc2) | (refine ws (g := _) (olds := zeros4) (HZ9.out.chg HC1.out (by omega)) lC10 rfl (h := ?_); intro W3 hr2 hc2; have HN2 := Lib.hid hr2; have HC2 := Lib.hid hc2; clear hr2 hc2))
  have HK2 := Lib.hid (nm_keeps_chg (nm_keeps_chg HV1.out HC1.out HB8.out) HC2.out HB9.out)
  have HN1 := Lib.hid (HN1.out.chg HC2.out (by omega))
  have hlt_g5_g7 := Nat.lt_of_lt_of_le (HRg5.out.lt (map_ne lC6)) HB8.out
  have hlt_g6_g7 := Nat.lt_of_lt_of_le (HRg6.out.lt (map_ne lC8)) HB8.out
  have hlt_g5_g8 := Nat.lt_of_lt_of_le (HRg5.out.lt (map_ne lC6)) HB9.out
  have hlt_g6_g8 := Nat.lt_of_lt_of_le (HRg6.out.lt (map_ne lC8)) HB9.out
  have HRA := Lib.hid (HRA.out.keeps HK2.out)
  have HRX := Lib.hid (HRX.out.keeps HK2.out)
  have HRY := Lib.hid (HRY.out.keeps HK2.out)
  have HRZ := Lib.hid (HRZ.out.keeps HK2.out)
  have HRB := Lib.hid (HRB.out.keeps HK2.out)
  have HRU := Lib.hid (HRU.out.keeps HK2.out)
  have HRV := Lib.hid (HRV.out.keeps HK2.out)
  have HRT := Lib.hid (HRT.out.keeps HK2.out)
  have HRres := Lib.hid (HRres.out.keeps HK2.out)
  have HRg1 := Lib.hid (HRg1.out.keeps HK2.out)
  have HRg2 := Lib.hid (HRg2.out.keeps HK2.out)
  have HRg3 := Lib.hid (HRg3.out.keeps HK2.out)
  have HRg4 := Lib.hid (HRg4.out.keeps HK2.out)
  have HRg5 := Lib.hid (HRg5.out.keeps HK2.out)
  have HRg6 := Lib.hid (HRg6.out.keeps HK2.out)
  have HKW := Lib.hid (HKW.out.trans HK2.out)
  have HRg7 := HN1
  have HRg8 := HN2
  go_upto_region 11 with (first | (refine wl HRg7.out lC9 (h := ?_)) | (go_at_call 38; refine (HZRO.out _).mono ?_; rintro e V1 ⟨rfl, hk1⟩; have HV1 := Lib.hid hk1; clear hk1))
  go_upto_region 13 with (first | (refine wl (HRg8.out.keeps HV1.out) lC10 (h := ?_)) | (go_at_call 38; refine (HZR2.out _).mono ?_; rintro e V2 ⟨rfl, hk1⟩; have HV2 := Lib.hid hk1; clear hk1))
  have HRA := Lib.hid ((HRA.out.keeps HV1.out).keeps HV2.out)
  have HRres := Lib.hid ((HRres.out.keeps HV1.out).keeps HV2.out)
  have HKW := Lib.hid ((HKW.out.trans HV1.out).trans HV2.out)
  go_wp2_with (first | (refine wpList_store_row rfl 76 (.tmp 6) (.tmp 82) rfl _ 0 rfl Zr ((List.replicate 12 (0 : Int)).map (Value.int .u64)) rfl HRres.out (by rw [hZr]; rfl) sz_cpt (int_oneCell _) ?_; intro W2 hr2 hc2; have HN := Lib.hid hr2; have HC := Lib.hid hc2; clear hr2 hc2))
  exact bodyPost_ret (results_cell_at (p := 6) (ty := 76) rfl _ _ (p + 1 + 1) 0 _ _ rfl HN.out Tryd.underlying76 rfl sz_cpt) rfl ⟨rfl, nm_keeps_chg HKW.out HC.out (by omega)⟩
set_option maxRecDepth 100000 in
set_option maxHeartbeats 4000000 in
theorem addinf1_walk (gv : Value) (PT PU : List Int) (lPT : PT.length = 12) (lPU : PU.length = 12) (gg : Nat) (hgv : gv = .pointer (some ⟨gg, 0, none⟩)) (w : World)
    (hinf : ∀ g W, Row W g 0 (PT.map (Value.int .u64)) → Calls Tryd.prog 43 #[.pointer (some ⟨g, 0, none⟩)] W fun e w' => e = .returned (.bool true) ∧ Keeps W w') :
    Calls Tryd.prog 40 #[gv, .agg (PT.map (Value.int .u64)).toArray, .agg (PU.map (Value.int .u64)).toArray] w fun e w' => e = .returned (.agg (PU.map (Value.int .u64)).toArray) ∧ Keeps w w' := by
  subst hgv
  have HINF := Lib.hid hinf; clear hinf
  go_enter Tryd.func40, Tryd.ntmps40
  go_upto_region 1 with (fail)
  refine wp_rows3 (fun W hk hra hrb hrc hs => ?_)
  obtain ⟨p, hp⟩ : ∃ p, p = w.heap.size := ⟨_, rfl⟩
  rw [← hp] at hra hrb hrc hs ⊢
  have hkp : w.heap.size ≤ p := by omega
  obtain ⟨Zr, hZr, hrz⟩ : ∃ Zr : List Value, Zr.length = 12 ∧ Row W (p + 1 + 1) 0 Zr := ⟨_, rfl, hrc⟩
  have HRA := Lib.hid (show Row W p 0 (PT.map (Value.int .u64)) from hra)
  have HRB := Lib.hid (show Row W (p + 1) 0 (PU.map (Value.int .u64)) from hrb)
  have HKW := Lib.hid hk; have HRres := Lib.hid hrz
  clear hp hra hrb hrc hrz hk hs
  go_wp2_with (first | (go_at_call 43; refine (HINF.out p _ HRA.out).mono ?_; rintro e V1 ⟨rfl, hk1⟩; have HV1 := Lib.hid hk1; clear hk1) | (refine wl (HRB.out.keeps HV1.out) lPU (h := ?_)) | (refine ws (HRres.out.keeps HV1.out) lPU (by rw [hZr]) (h := ?_); intro W2 hr2 hc2; have HN := Lib.hid hr2; have HC := Lib.hid hc2; clear hr2 hc2))
  exact bodyPost_ret (results_cell_at (p := 6) (ty := 76) rfl _ _ (p + 1 + 1) 0 _ _ rfl HN.out Tryd.underlying76 rfl (by rw [List.length_map, lPU]; exact sz_cpt)) rfl ⟨rfl, nm_keeps_chg (HKW.out.trans HV1.out) HC.out (by omega)⟩
set_option maxRecDepth 100000 in
set_option maxHeartbeats 4000000 in
theorem addinf2_walk (gv : Value) (PT PU : List Int) (lPT : PT.length = 12) (lPU : PU.length = 12) (gg : Nat) (hgv : gv = .pointer (some ⟨gg, 0, none⟩)) (w : World)
    (hinf : ∀ g W, Row W g 0 (PT.map (Value.int .u64)) → Calls Tryd.prog 43 #[.pointer (some ⟨g, 0, none⟩)] W fun e w' => e = .returned (.bool false) ∧ Keeps W w')
    (hinf2 : ∀ g W, Row W g 0 (PU.map (Value.int .u64)) → Calls Tryd.prog 43 #[.pointer (some ⟨g, 0, none⟩)] W fun e w' => e = .returned (.bool true) ∧ Keeps W w') :
    Calls Tryd.prog 40 #[gv, .agg (PT.map (Value.int .u64)).toArray, .agg (PU.map (Value.int .u64)).toArray] w fun e w' => e = .returned (.agg (PT.map (Value.int .u64)).toArray) ∧ Keeps w w' := by
  subst hgv
  have HINF := Lib.hid hinf; have HINF2 := Lib.hid hinf2; clear hinf hinf2
  go_enter Tryd.func40, Tryd.ntmps40
  go_upto_region 1 with (fail)
  refine wp_rows3 (fun W hk hra hrb hrc hs => ?_)
  obtain ⟨p, hp⟩ : ∃ p, p = w.heap.size := ⟨_, rfl⟩
  rw [← hp] at hra hrb hrc hs ⊢
  have hkp : w.heap.size ≤ p := by omega
  obtain ⟨Zr, hZr, hrz⟩ : ∃ Zr : List Value, Zr.length = 12 ∧ Row W (p + 1 + 1) 0 Zr := ⟨_, rfl, hrc⟩
  have HRA := Lib.hid (show Row W p 0 (PT.map (Value.int .u64)) from hra)
  have HRB := Lib.hid (show Row W (p + 1) 0 (PU.map (Value.int .u64)) from hrb)
  have HKW := Lib.hid hk; have HRres := Lib.hid hrz
  clear hp hra hrb hrc hrz hk hs
  go_upto_region 4 with (go_at_call 43; refine (HINF.out p _ HRA.out).mono ?_; rintro e V1 ⟨rfl, hk1⟩; have HV1 := Lib.hid hk1; clear hk1)
  have HRA := Lib.hid (HRA.out.keeps HV1.out)
  have HRB := Lib.hid (HRB.out.keeps HV1.out)
  have HRres := Lib.hid (HRres.out.keeps HV1.out)
  have HKW := Lib.hid (HKW.out.trans HV1.out)
  go_wp2_with (first | (go_at_call 43; refine (HINF2.out (p + 1) _ HRB.out).mono ?_; rintro e V2 ⟨rfl, hk1⟩; have HV2 := Lib.hid hk1; clear hk1) | (refine wl (HRA.out.keeps HV2.out) lPT (h := ?_)) | (refine ws (HRres.out.keeps HV2.out) lPT (by rw [hZr]) (h := ?_); intro W2 hr2 hc2; have HN := Lib.hid hr2; have HC := Lib.hid hc2; clear hr2 hc2))
  exact bodyPost_ret (results_cell_at (p := 6) (ty := 76) rfl _ _ (p + 1 + 1) 0 _ _ rfl HN.out Tryd.underlying76 rfl (by rw [List.length_map, lPT]; exact sz_cpt)) rfl ⟨rfl, nm_keeps_chg (HKW.out.trans HV2.out) HC.out (by omega)⟩
set_option maxRecDepth 10000 in
theorem gadd_any (g : Nat) (a b : J) (h : a.ok) (h' : b.ok) (w : World) (hr : Row w g 0 gCells) :
    Calls Tryd.prog 40 #[.pointer (some ⟨g, 0, none⟩), .agg ((ptW a).map (Value.int .u64)).toArray, .agg ((ptW b).map (Value.int .u64)).toArray] w fun e w' => e = .returned (.agg ((ptW (addJ a b)).map (Value.int .u64)).toArray) ∧ Keeps w w' := by
  by_cases hz : a.z = 0
  · have e : addJ a b = b := by unfold addJ; rw [if_pos hz]
    rw [e]
    exact addinf1_walk _ (ptW a) (ptW b) rfl rfl g rfl w (fun g' W hW => infinite_yes g' a W h.2.2 hz hW)
  by_cases hz' : b.z = 0
  · have e : addJ a b = a := by unfold addJ; rw [if_neg hz, if_pos hz']
    rw [e]
    exact addinf2_walk _ (ptW a) (ptW b) rfl rfl g rfl w (fun g' W hW => infinite_any g' a W h.2.2 hz hW) (fun g' W hW => infinite_yes g' b W h'.2.2 hz' hW)
  have hcase : addJ a b = (if fs (fm b.x (fm a.z a.z)) (fm a.x (fm b.z b.z)) = 0 then (if fs (fm b.y (fm a.z (fm a.z a.z))) (fm a.y (fm b.z (fm b.z b.z))) = 0 then dblJ a else ⟨0, 0, 0⟩) else addJ a b) := by
    by_cases hH : fs (fm b.x (fm a.z a.z)) (fm a.x (fm b.z b.z)) = 0
    · rw [if_pos hH]
      conv => lhs; unfold addJ
      rw [if_neg hz, if_neg hz']
      dsimp only
      rw [if_pos hH]
    · rw [if_neg hH]
  by_cases hH : fs (fm b.x (fm a.z a.z)) (fm a.x (fm b.z b.z)) = 0
  · rw [if_pos hH] at hcase
    by_cases hRr : fs (fm b.y (fm a.z (fm a.z a.z))) (fm a.y (fm b.z (fm b.z b.z))) = 0
    · rw [if_pos hRr] at hcase
      obtain ⟨c1, hc1⟩ : ∃ v, v = fm a.z a.z := ⟨_, rfl⟩
      have lc1 : c1 < PVn := by rw [hc1]; exact fm_lt _ _
      obtain ⟨c2, hc2⟩ : ∃ v, v = fm b.z b.z := ⟨_, rfl⟩
      have lc2 : c2 < PVn := by rw [hc2]; exact fm_lt _ _
      obtain ⟨c3, hc3⟩ : ∃ v, v = fm a.x c2 := ⟨_, rfl⟩
      have lc3 : c3 < PVn := by rw [hc3]; exact fm_lt _ _
      obtain ⟨c4, hc4⟩ : ∃ v, v = fm b.x c1 := ⟨_, rfl⟩
      have lc4 : c4 < PVn := by rw [hc4]; exact fm_lt _ _
      obtain ⟨c5, hc5⟩ : ∃ v, v = fm b.z c2 := ⟨_, rfl⟩
      have lc5 : c5 < PVn := by rw [hc5]; exact fm_lt _ _
      obtain ⟨c6, hc6⟩ : ∃ v, v = fm a.y c5 := ⟨_, rfl⟩
      have lc6 : c6 < PVn := by rw [hc6]; exact fm_lt _ _
      obtain ⟨c7, hc7⟩ : ∃ v, v = fm a.z c1 := ⟨_, rfl⟩
      have lc7 : c7 < PVn := by rw [hc7]; exact fm_lt _ _
      obtain ⟨c8, hc8⟩ : ∃ v, v = fm b.y c7 := ⟨_, rfl⟩
      have lc8 : c8 < PVn := by rw [hc8]; exact fm_lt _ _
      obtain ⟨c9, hc9⟩ : ∃ v, v = fs c4 c3 := ⟨_, rfl⟩
      have lc9 : c9 < PVn := by rw [hc9]; exact fs_lt _ _
      obtain ⟨c10, hc10⟩ : ∃ v, v = fs c8 c6 := ⟨_, rfl⟩
      have lc10 : c10 < PVn := by rw [hc10]; exact fs_lt _ _
      have ec9 : c9 = 0 := by rw [hc9, hc4, hc3, hc2, hc1]; exact hH
      have ec10 : c10 = 0 := by rw [hc10, hc8, hc7, hc6, hc5, hc2, hc1]; exact hRr
      rw [hcase]
      exact addsame_walk g _ _ _ _ _ _ (nw c1) (nw c2) (nw c3) (nw c4) (nw c5) (nw c6) (nw c7) (nw c8) (nw c9) (nw c10) (ptW a) (ptW b) (ptW (dblJ a)) rfl rfl rfl (words_length _) (words_length _) (words_length _) (words_length _) (words_length _) (words_length _) (words_length _) (words_length _) (words_length _) (words_length _) (words_length _) (words_length _) (words_length _) (words_length _) (words_length _) (words_length _) w (fun g' W hW => infinite_any g' a W (h.2.2) hz hW) (fun g' W hW => infinite_any g' b W (h'.2.2) hz' hW) (fun W => by have := czero_any ((c9 : Nat) : Int) (nat_u256 lc9) W; rwa [show decide (((c9 : Nat) : Int) = 0) = true from decide_eq_true (by exact_mod_cast ec9)] at this) (fun W => by have := czero_any ((c10 : Nat) : Int) (nat_u256 lc10) W; rwa [show decide (((c10 : Nat) : Int) = 0) = true from decide_eq_true (by exact_mod_cast ec10)] at this) (fun W hk => dbl_any g a h W (hr.keeps hk)) (fun W hk => by rw [hc1]; exact pmul_any g _ _ h.2.2 h.2.2 W (hr.keeps hk)) (fun W hk => by rw [hc2]; exact pmul_any g _ _ h'.2.2 h'.2.2 W (hr.keeps hk)) (fun W hk => by rw [hc3]; exact pmul_any g _ _ h.1 lc2 W (hr.keeps hk)) (fun W hk => by rw [hc4]; exact pmul_any g _ _ h'.1 lc1 W (hr.keeps hk)) (fun W hk => by rw [hc5]; exact pmul_any g _ _ h'.2.2 lc2 W (hr.keeps hk)) (fun W hk => by rw [hc6]; exact pmul_any g _ _ h.2.1 lc5 W (hr.keeps hk)) (fun W hk => by rw [hc7]; exact pmul_any g _ _ h.2.2 lc1 W (hr.keeps hk)) (fun W hk => by rw [hc8]; exact pmul_any g _ _ h'.2.1 lc7 W (hr.keeps hk)) (fun W hk => by rw [hc9]; exact psub_any g _ _ lc4 lc3 W (hr.keeps hk)) (fun W hk => by rw [hc10]; exact psub_any g _ _ lc8 lc6 W (hr.keeps hk))
    · rw [if_neg hRr] at hcase
      obtain ⟨c1, hc1⟩ : ∃ v, v = fm a.z a.z := ⟨_, rfl⟩
      have lc1 : c1 < PVn := by rw [hc1]; exact fm_lt _ _
      obtain ⟨c2, hc2⟩ : ∃ v, v = fm b.z b.z := ⟨_, rfl⟩
      have lc2 : c2 < PVn := by rw [hc2]; exact fm_lt _ _
      obtain ⟨c3, hc3⟩ : ∃ v, v = fm a.x c2 := ⟨_, rfl⟩
      have lc3 : c3 < PVn := by rw [hc3]; exact fm_lt _ _
      obtain ⟨c4, hc4⟩ : ∃ v, v = fm b.x c1 := ⟨_, rfl⟩
      have lc4 : c4 < PVn := by rw [hc4]; exact fm_lt _ _
      obtain ⟨c5, hc5⟩ : ∃ v, v = fm b.z c2 := ⟨_, rfl⟩
      have lc5 : c5 < PVn := by rw [hc5]; exact fm_lt _ _
      obtain ⟨c6, hc6⟩ : ∃ v, v = fm a.y c5 := ⟨_, rfl⟩
      have lc6 : c6 < PVn := by rw [hc6]; exact fm_lt _ _
      obtain ⟨c7, hc7⟩ : ∃ v, v = fm a.z c1 := ⟨_, rfl⟩
      have lc7 : c7 < PVn := by rw [hc7]; exact fm_lt _ _
      obtain ⟨c8, hc8⟩ : ∃ v, v = fm b.y c7 := ⟨_, rfl⟩
      have lc8 : c8 < PVn := by rw [hc8]; exact fm_lt _ _
      obtain ⟨c9, hc9⟩ : ∃ v, v = fs c4 c3 := ⟨_, rfl⟩
      have lc9 : c9 < PVn := by rw [hc9]; exact fs_lt _ _
      obtain ⟨c10, hc10⟩ : ∃ v, v = fs c8 c6 := ⟨_, rfl⟩
      have lc10 : c10 < PVn := by rw [hc10]; exact fs_lt _ _
      have ec9 : c9 = 0 := by rw [hc9, hc4, hc3, hc2, hc1]; exact hH
      have ec10 : ¬ c10 = 0 := by rw [hc10, hc8, hc7, hc6, hc5, hc2, hc1]; exact hRr
      rw [hcase, show ptW ⟨0, 0, 0⟩ = List.replicate 12 (0 : Int) by decide]
      exact addopp_walk g _ _ _ _ _ _ (nw c1) (nw c2) (nw c3) (nw c4) (nw c5) (nw c6) (nw c7) (nw c8) (nw c9) (nw c10) (ptW a) (ptW b) rfl rfl (words_length _) (words_length _) (words_length _) (words_length _) (words_length _) (words_length _) (words_length _) (words_length _) (words_length _) (words_length _) (words_length _) (words_length _) (words_length _) (words_length _) (words_length _) (words_length _) w (fun g' W hW => infinite_any g' a W (h.2.2) hz hW) (fun g' W hW => infinite_any g' b W (h'.2.2) hz' hW) (fun W => by have := czero_any ((c9 : Nat) : Int) (nat_u256 lc9) W; rwa [show decide (((c9 : Nat) : Int) = 0) = true from decide_eq_true (by exact_mod_cast ec9)] at this) (fun W => by have := czero_any ((c10 : Nat) : Int) (nat_u256 lc10) W; rwa [show decide (((c10 : Nat) : Int) = 0) = false from decide_eq_false (by intro e; exact ec10 (by exact_mod_cast e))] at this) (fun W hk => by rw [hc1]; exact pmul_any g _ _ h.2.2 h.2.2 W (hr.keeps hk)) (fun W hk => by rw [hc2]; exact pmul_any g _ _ h'.2.2 h'.2.2 W (hr.keeps hk)) (fun W hk => by rw [hc3]; exact pmul_any g _ _ h.1 lc2 W (hr.keeps hk)) (fun W hk => by rw [hc4]; exact pmul_any g _ _ h'.1 lc1 W (hr.keeps hk)) (fun W hk => by rw [hc5]; exact pmul_any g _ _ h'.2.2 lc2 W (hr.keeps hk)) (fun W hk => by rw [hc6]; exact pmul_any g _ _ h.2.1 lc5 W (hr.keeps hk)) (fun W hk => by rw [hc7]; exact pmul_any g _ _ h.2.2 lc1 W (hr.keeps hk)) (fun W hk => by rw [hc8]; exact pmul_any g _ _ h'.2.1 lc7 W (hr.keeps hk)) (fun W hk => by rw [hc9]; exact psub_any g _ _ lc4 lc3 W (hr.keeps hk)) (fun W hk => by rw [hc10]; exact psub_any g _ _ lc8 lc6 W (hr.keeps hk))
  · skip
    obtain ⟨c1, hc1⟩ : ∃ v, v = fm a.z a.z := ⟨_, rfl⟩
    have lc1 : c1 < PVn := by rw [hc1]; exact fm_lt _ _
    obtain ⟨c2, hc2⟩ : ∃ v, v = fm b.z b.z := ⟨_, rfl⟩
    have lc2 : c2 < PVn := by rw [hc2]; exact fm_lt _ _
    obtain ⟨c3, hc3⟩ : ∃ v, v = fm a.x c2 := ⟨_, rfl⟩
    have lc3 : c3 < PVn := by rw [hc3]; exact fm_lt _ _
    obtain ⟨c4, hc4⟩ : ∃ v, v = fm b.x c1 := ⟨_, rfl⟩
    have lc4 : c4 < PVn := by rw [hc4]; exact fm_lt _ _
    obtain ⟨c5, hc5⟩ : ∃ v, v = fm b.z c2 := ⟨_, rfl⟩
    have lc5 : c5 < PVn := by rw [hc5]; exact fm_lt _ _
    obtain ⟨c6, hc6⟩ : ∃ v, v = fm a.y c5 := ⟨_, rfl⟩
    have lc6 : c6 < PVn := by rw [hc6]; exact fm_lt _ _
    obtain ⟨c7, hc7⟩ : ∃ v, v = fm a.z c1 := ⟨_, rfl⟩
    have lc7 : c7 < PVn := by rw [hc7]; exact fm_lt _ _
    obtain ⟨c8, hc8⟩ : ∃ v, v = fm b.y c7 := ⟨_, rfl⟩
    have lc8 : c8 < PVn := by rw [hc8]; exact fm_lt _ _
    obtain ⟨c9, hc9⟩ : ∃ v, v = fs c4 c3 := ⟨_, rfl⟩
    have lc9 : c9 < PVn := by rw [hc9]; exact fs_lt _ _
    obtain ⟨c10, hc10⟩ : ∃ v, v = fs c8 c6 := ⟨_, rfl⟩
    have lc10 : c10 < PVn := by rw [hc10]; exact fs_lt _ _
    obtain ⟨c11, hc11⟩ : ∃ v, v = fm c9 c9 := ⟨_, rfl⟩
    have lc11 : c11 < PVn := by rw [hc11]; exact fm_lt _ _
    obtain ⟨c12, hc12⟩ : ∃ v, v = fm c9 c11 := ⟨_, rfl⟩
    have lc12 : c12 < PVn := by rw [hc12]; exact fm_lt _ _
    obtain ⟨c13, hc13⟩ : ∃ v, v = fm c3 c11 := ⟨_, rfl⟩
    have lc13 : c13 < PVn := by rw [hc13]; exact fm_lt _ _
    obtain ⟨c14, hc14⟩ : ∃ v, v = fm c10 c10 := ⟨_, rfl⟩
    have lc14 : c14 < PVn := by rw [hc14]; exact fm_lt _ _
    obtain ⟨c15, hc15⟩ : ∃ v, v = fs c14 c12 := ⟨_, rfl⟩
    have lc15 : c15 < PVn := by rw [hc15]; exact fs_lt _ _
    obtain ⟨c16, hc16⟩ : ∃ v, v = fa c13 c13 := ⟨_, rfl⟩
    have lc16 : c16 < PVn := by rw [hc16]; exact fa_lt _ _
    obtain ⟨c17, hc17⟩ : ∃ v, v = fs c15 c16 := ⟨_, rfl⟩
    have lc17 : c17 < PVn := by rw [hc17]; exact fs_lt _ _
    obtain ⟨c18, hc18⟩ : ∃ v, v = fs c13 c17 := ⟨_, rfl⟩
    have lc18 : c18 < PVn := by rw [hc18]; exact fs_lt _ _
    obtain ⟨c19, hc19⟩ : ∃ v, v = fm c10 c18 := ⟨_, rfl⟩
    have lc19 : c19 < PVn := by rw [hc19]; exact fm_lt _ _
    obtain ⟨c20, hc20⟩ : ∃ v, v = fm c6 c12 := ⟨_, rfl⟩
    have lc20 : c20 < PVn := by rw [hc20]; exact fm_lt _ _
    obtain ⟨c21, hc21⟩ : ∃ v, v = fs c19 c20 := ⟨_, rfl⟩
    have lc21 : c21 < PVn := by rw [hc21]; exact fs_lt _ _
    obtain ⟨c22, hc22⟩ : ∃ v, v = fm a.z b.z := ⟨_, rfl⟩
    have lc22 : c22 < PVn := by rw [hc22]; exact fm_lt _ _
    obtain ⟨c23, hc23⟩ : ∃ v, v = fm c9 c22 := ⟨_, rfl⟩
    have lc23 : c23 < PVn := by rw [hc23]; exact fm_lt _ _
    refine add_walk g _ _ _ _ _ _ (nw c1) (nw c2) (nw c3) (nw c4) (nw c5) (nw c6) (nw c7) (nw c8) (nw c9) (nw c10) (nw c11) (nw c12) (nw c13) (nw c14) (nw c15) (nw c16) (nw c17) (nw c18) (nw c19) (nw c20) (nw c21) (nw c22) (nw c23) (ptW a) (ptW b) (ptW (addJ a b)) rfl rfl ?_ (words_length _) (words_length _) (words_length _) (words_length _) (words_length _) (words_length _) (words_length _) (words_length _) (words_length _) (words_length _) (words_length _) (words_length _) (words_length _) (words_length _) (words_length _) (words_length _) (words_length _) (words_length _) (words_length _) (words_length _) (words_length _) (words_length _) (words_length _) (words_length _) (words_length _) (words_length _) (words_length _) (words_length _) (words_length _) w (fun g' W hW => infinite_any g' a W (h.2.2) hz hW) (fun g' W hW => infinite_any g' b W (h'.2.2) hz' hW) (fun W => by have := czero_any ((c9 : Nat) : Int) (nat_u256 lc9) W; rwa [show decide (((c9 : Nat) : Int) = 0) = false from decide_eq_false (by rw [hc9, hc4, hc3, hc2, hc1]; intro e; exact hH (by exact_mod_cast e))] at this) (fun W hk => by rw [hc1]; exact pmul_any g _ _ h.2.2 h.2.2 W (hr.keeps hk)) (fun W hk => by rw [hc2]; exact pmul_any g _ _ h'.2.2 h'.2.2 W (hr.keeps hk)) (fun W hk => by rw [hc3]; exact pmul_any g _ _ h.1 lc2 W (hr.keeps hk)) (fun W hk => by rw [hc4]; exact pmul_any g _ _ h'.1 lc1 W (hr.keeps hk)) (fun W hk => by rw [hc5]; exact pmul_any g _ _ h'.2.2 lc2 W (hr.keeps hk)) (fun W hk => by rw [hc6]; exact pmul_any g _ _ h.2.1 lc5 W (hr.keeps hk)) (fun W hk => by rw [hc7]; exact pmul_any g _ _ h.2.2 lc1 W (hr.keeps hk)) (fun W hk => by rw [hc8]; exact pmul_any g _ _ h'.2.1 lc7 W (hr.keeps hk)) (fun W hk => by rw [hc9]; exact psub_any g _ _ lc4 lc3 W (hr.keeps hk)) (fun W hk => by rw [hc10]; exact psub_any g _ _ lc8 lc6 W (hr.keeps hk)) (fun W hk => by rw [hc11]; exact pmul_any g _ _ lc9 lc9 W (hr.keeps hk)) (fun W hk => by rw [hc12]; exact pmul_any g _ _ lc9 lc11 W (hr.keeps hk)) (fun W hk => by rw [hc13]; exact pmul_any g _ _ lc3 lc11 W (hr.keeps hk)) (fun W hk => by rw [hc14]; exact pmul_any g _ _ lc10 lc10 W (hr.keeps hk)) (fun W hk => by rw [hc15]; exact psub_any g _ _ lc14 lc12 W (hr.keeps hk)) (fun W hk => by rw [hc16]; exact padd_any g _ _ lc13 lc13 W (hr.keeps hk)) (fun W hk => by rw [hc17]; exact psub_any g _ _ lc15 lc16 W (hr.keeps hk)) (fun W hk => by rw [hc18]; exact psub_any g _ _ lc13 lc17 W (hr.keeps hk)) (fun W hk => by rw [hc19]; exact pmul_any g _ _ lc10 lc18 W (hr.keeps hk)) (fun W hk => by rw [hc20]; exact pmul_any g _ _ lc6 lc12 W (hr.keeps hk)) (fun W hk => by rw [hc21]; exact psub_any g _ _ lc19 lc20 W (hr.keeps hk)) (fun W hk => by rw [hc22]; exact pmul_any g _ _ h.2.2 h'.2.2 W (hr.keeps hk)) (fun W hk => by rw [hc23]; exact pmul_any g _ _ lc9 lc22 W (hr.keeps hk))
    subst hc23 hc22 hc21 hc20 hc19 hc18 hc17 hc16 hc15 hc14 hc13 hc12 hc11 hc10 hc9 hc8 hc7 hc6 hc5 hc4 hc3 hc2 hc1
    unfold addJ
    rw [if_neg hz, if_neg hz']
    dsimp only
    rw [if_neg hH]
    rfl
end Go.Proofs.YtlofddoojkeakaaDoor
