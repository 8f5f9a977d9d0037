/- curve's group: the sum of two points that differ, over letters. No condition. -/
import Derived.Test.YtlofddoojkeakaaDoorGB9
namespace Go.Proofs.YtlofddoojkeakaaDoor
set_option linter.unusedVariables false
set_option linter.unusedSimpArgs false
open Go Go.RowKit

set_option maxRecDepth 100000 in
set_option maxHeartbeats 16000000 in
theorem add_walk (gg : Nat) (X Y Z U V T C1 C2 C3 C4 C5 C6 C7 C8 C9 C10 C11 C12 C13 C14 C15 C16 C17 C18 C19 C20 C21 C22 C23 PT PU RT : List Int) (hPT : PT = X ++ Y ++ Z) (hPU : PU = U ++ V ++ T) (hRT : RT = C17 ++ C21 ++ C23) (lX : X.length = 4) (lY : Y.length = 4) (lZ : Z.length = 4) (lU : U.length = 4) (lV : V.length = 4) (lT : T.length = 4) (lC1 : C1.length = 4) (lC2 : C2.length = 4) (lC3 : C3.length = 4) (lC4 : C4.length = 4) (lC5 : C5.length = 4) (lC6 : C6.length = 4) (lC7 : C7.length = 4) (lC8 : C8.length = 4) (lC9 : C9.length = 4) (lC10 : C10.length = 4) (lC11 : C11.length = 4) (lC12 : C12.length = 4) (lC13 : C13.length = 4) (lC14 : C14.length = 4) (lC15 : C15.length = 4) (lC16 : C16.length = 4) (lC17 : C17.length = 4) (lC18 : C18.length = 4) (lC19 : C19.length = 4) (lC20 : C20.length = 4) (lC21 : C21.length = 4) (lC22 : C22.length = 4) (lC23 : C23.length = 4) (w : World)
    (hinf : ∀ g W, Row W g 0 (PT.map (Value.int .u64)) → Calls Tryd.prog 43 #[.pointer (some ⟨g, 0, none⟩)] W fun e w' => e = .returned (.bool false) ∧ Keeps W w')
    (hinf2 : ∀ g W, Row W g 0 (PU.map (Value.int .u64)) → Calls Tryd.prog 43 #[.pointer (some ⟨g, 0, none⟩)] W fun e w' => e = .returned (.bool false) ∧ Keeps W w')
    (hzro : ∀ W, Calls Tryd.prog 38 #[.agg (C9.map (Value.int .u64)).toArray] W fun e w' => e = .returned (.bool false) ∧ Keeps W w')
    (h1 : ∀ W, Keeps w W → Calls Tryd.prog 67 #[.pointer (some ⟨gg, 0, none⟩), .agg (Z.map (Value.int .u64)).toArray, .agg (Z.map (Value.int .u64)).toArray] W fun e w' => e = .returned (.agg (C1.map (Value.int .u64)).toArray) ∧ Keeps W w') (h2 : ∀ W, Keeps w W → Calls Tryd.prog 67 #[.pointer (some ⟨gg, 0, none⟩), .agg (T.map (Value.int .u64)).toArray, .agg (T.map (Value.int .u64)).toArray] W fun e w' => e = .returned (.agg (C2.map (Value.int .u64)).toArray) ∧ Keeps W w') (h3 : ∀ W, Keeps w W → Calls Tryd.prog 67 #[.pointer (some ⟨gg, 0, none⟩), .agg (X.map (Value.int .u64)).toArray, .agg (C2.map (Value.int .u64)).toArray] W fun e w' => e = .returned (.agg (C3.map (Value.int .u64)).toArray) ∧ Keeps W w') (h4 : ∀ W, Keeps w W → Calls Tryd.prog 67 #[.pointer (some ⟨gg, 0, none⟩), .agg (U.map (Value.int .u64)).toArray, .agg (C1.map (Value.int .u64)).toArray] W fun e w' => e = .returned (.agg (C4.map (Value.int .u64)).toArray) ∧ Keeps W w') (h5 : ∀ W, Keeps w W → Calls Tryd.prog 67 #[.pointer (some ⟨gg, 0, none⟩), .agg (T.map (Value.int .u64)).toArray, .agg (C2.map (Value.int .u64)).toArray] W fun e w' => e = .returned (.agg (C5.map (Value.int .u64)).toArray) ∧ Keeps W w') (h6 : ∀ W, Keeps w W → Calls Tryd.prog 67 #[.pointer (some ⟨gg, 0, none⟩), .agg (Y.map (Value.int .u64)).toArray, .agg (C5.map (Value.int .u64)).toArray] W fun e w' => e = .returned (.agg (C6.map (Value.int .u64)).toArray) ∧ Keeps W w') (h7 : ∀ W, Keeps w W → Calls Tryd.prog 67 #[.pointer (some ⟨gg, 0, none⟩), .agg (Z.map (Value.int .u64)).toArray, .agg (C1.map (Value.int .u64)).toArray] W fun e w' => e = .returned (.agg (C7.map (Value.int .u64)).toArray) ∧ Keeps W w') (h8 : ∀ W, Keeps w W → Calls Tryd.prog 67 #[.pointer (some ⟨gg, 0, none⟩), .agg (V.map (Value.int .u64)).toArray, .agg (C7.map (Value.int .u64)).toArray] W fun e w' => e = .returned (.agg (C8.map (Value.int .u64)).toArray) ∧ Keeps W w') (h9 : ∀ W, Keeps w W → Calls Tryd.prog 68 #[.pointer (some ⟨gg, 0, none⟩), .agg (C4.map (Value.int .u64)).toArray, .agg (C3.map (Value.int .u64)).toArray] W fun e w' => e = .returned (.agg (C9.map (Value.int .u64)).toArray) ∧ Keeps W w') (h10 : ∀ W, Keeps w W → Calls Tryd.prog 68 #[.pointer (some ⟨gg, 0, none⟩), .agg (C8.map (Value.int .u64)).toArray, .agg (C6.map (Value.int .u64)).toArray] W fun e w' => e = .returned (.agg (C10.map (Value.int .u64)).toArray) ∧ Keeps W w') (h11 : ∀ W, Keeps w W → Calls Tryd.prog 67 #[.pointer (some ⟨gg, 0, none⟩), .agg (C9.map (Value.int .u64)).toArray, .agg (C9.map (Value.int .u64)).toArray] W fun e w' => e = .returned (.agg (C11.map (Value.int .u64)).toArray) ∧ Keeps W w') (h12 : ∀ W, Keeps w W → Calls Tryd.prog 67 #[.pointer (some ⟨gg, 0, none⟩), .agg (C9.map (Value.int .u64)).toArray, .agg (C11.map (Value.int .u64)).toArray] W fun e w' => e = .returned (.agg (C12.map (Value.int .u64)).toArray) ∧ Keeps W w') (h13 : ∀ W, Keeps w W → Calls Tryd.prog 67 #[.pointer (some ⟨gg, 0, none⟩), .agg (C3.map (Value.int .u64)).toArray, .agg (C11.map (Value.int .u64)).toArray] W fun e w' => e = .returned (.agg (C13.map (Value.int .u64)).toArray) ∧ Keeps W w') (h14 : ∀ W, Keeps w W → Calls Tryd.prog 67 #[.pointer (some ⟨gg, 0, none⟩), .agg (C10.map (Value.int .u64)).toArray, .agg (C10.map (Value.int .u64)).toArray] W fun e w' => e = .returned (.agg (C14.map (Value.int .u64)).toArray) ∧ Keeps W w') (h15 : ∀ W, Keeps w W → Calls Tryd.prog 68 #[.pointer (some ⟨gg, 0, none⟩), .agg (C14.map (Value.int .u64)).toArray, .agg (C12.map (Value.int .u64)).toArray] W fun e w' => e = .returned (.agg (C15.map (Value.int .u64)).toArray) ∧ Keeps W w') (h16 : ∀ W, Keeps w W → Calls Tryd.prog 37 #[.pointer (some ⟨gg, 0, none⟩), .agg (C13.map (Value.int .u64)).toArray, .agg (C13.map (Value.int .u64)).toArray] W fun e w' => e = .returned (.agg (C16.map (Value.int .u64)).toArray) ∧ Keeps W w') (h17 : ∀ W, Keeps w W → Calls Tryd.prog 68 #[.pointer (some ⟨gg, 0, none⟩), .agg (C15.map (Value.int .u64)).toArray, .agg (C16.map (Value.int .u64)).toArray] W fun e w' => e = .returned (.agg (C17.map (Value.int .u64)).toArray) ∧ Keeps W w') (h18 : ∀ W, Keeps w W → Calls Tryd.prog 68 #[.pointer (some ⟨gg, 0, none⟩), .agg (C13.map (Value.int .u64)).toArray, .agg (C17.map (Value.int .u64)).toArray] W fun e w' => e = .returned (.agg (C18.map (Value.int .u64)).toArray) ∧ Keeps W w') (h19 : ∀ W, Keeps w W → Calls Tryd.prog 67 #[.pointer (some ⟨gg, 0, none⟩), .agg (C10.map (Value.int .u64)).toArray, .agg (C18.map (Value.int .u64)).toArray] W fun e w' => e = .returned (.agg (C19.map (Value.int .u64)).toArray) ∧ Keeps W w') (h20 : ∀ W, Keeps w W → Calls Tryd.prog 67 #[.pointer (some ⟨gg, 0, none⟩), .agg (C6.map (Value.int .u64)).toArray, .agg (C12.map (Value.int .u64)).toArray] W fun e w' => e = .returned (.agg (C20.map (Value.int .u64)).toArray) ∧ Keeps W w') (h21 : ∀ W, Keeps w W → Calls Tryd.prog 68 #[.pointer (some ⟨gg, 0, none⟩), .agg (C19.map (Value.int .u64)).toArray, .agg (C20.map (Value.int .u64)).toArray] W fun e w' => e = .returned (.agg (C21.map (Value.int .u64)).toArray) ∧ Keeps W w') (h22 : ∀ W, Keeps w W → Calls Tryd.prog 67 #[.pointer (some ⟨gg, 0, none⟩), .agg (Z.map (Value.int .u64)).toArray, .agg (T.map (Value.int .u64)).toArray] W fun e w' => e = .returned (.agg (C22.map (Value.int .u64)).toArray) ∧ Keeps W w') (h23 : ∀ W, Keeps w W → Calls Tryd.prog 67 #[.pointer (some ⟨gg, 0, none⟩), .agg (C9.map (Value.int .u64)).toArray, .agg (C22.map (Value.int .u64)).toArray] W fun e w' => e = .returned (.agg (C23.map (Value.int .u64)).toArray) ∧ Keeps W w') :
    Calls Tryd.prog 40 #[.pointer (some ⟨gg, 0, none⟩), .agg (PT.map (Value.int .u64)).toArray, .agg (PU.map (Value.int .u64)).toArray] w fun e w' => e = .returned (.agg (RT.map (Value.int .u64)).toArray) ∧ Keeps w w' := by
  have HC1 := Lib.hid h1; clear h1
  have HC2 := Lib.hid h2; clear h2
  have HC3 := Lib.hid h3; clear h3
  have HC4 := Lib.hid h4; clear h4
  have HC5 := Lib.hid h5; clear h5
  have HC6 := Lib.hid h6; clear h6
  have HC7 := Lib.hid h7; clear h7
  have HC8 := Lib.hid h8; clear h8
  have HC9 := Lib.hid h9; clear h9
  have HC10 := Lib.hid h10; clear h10
  have HC11 := Lib.hid h11; clear h11
  have HC12 := Lib.hid h12; clear h12
  have HC13 := Lib.hid h13; clear h13
  have HC14 := Lib.hid h14; clear h14
  have HC15 := Lib.hid h15; clear h15
  have HC16 := Lib.hid h16; clear h16
  have HC17 := Lib.hid h17; clear h17
  have HC18 := Lib.hid h18; clear h18
  have HC19 := Lib.hid h19; clear h19
  have HC20 := Lib.hid h20; clear h20
  have HC21 := Lib.hid h21; clear h21
  have HC22 := Lib.hid h22; clear h22
  have HC23 := Lib.hid h23; clear h23
  have HINF := Lib.hid hinf; clear hinf
  have HINF2 := Lib.hid hinf2; clear hinf2
  have HZRO := Lib.hid hzro; clear hzro
  have lPT : PT.length = 12 := by rw [hPT]; exact len3 lX lY lZ
  have lPU : PU.length = 12 := by rw [hPU]; exact len3 lU lV lT
  have lRT : RT.length = 12 := by rw [hRT]; exact len3 lC17 lC21 lC23
  have hBP := built_cpt lC17 lC21 lC23
  rw [← hRT] at hBP
  have HBP := Lib.hid hBP
  have HPT := Lib.hid hPT
  have HPU := Lib.hid hPU
  clear hBP hPT hPU hRT
  go_enter Tryd.func40, Tryd.ntmps40
  go_upto_region 1 with (fail)
  refine wp_rows3 (fun W hk hra hrb hrc hs => ?_)
  obtain ⟨p, hp⟩ : ∃ p, p = w.heap.size := ⟨_, rfl⟩
  rw [← hp] at hra hrb hrc hs ⊢
  have hkp : w.heap.size ≤ p := by omega
  obtain ⟨Zr, hZr, hrz⟩ : ∃ Zr : List Value, Zr.length = 4 + 4 + 4 ∧ Row W (p + 1 + 1) 0 Zr := ⟨_, rfl, hrc⟩
  have HRA := Lib.hid (show Row W p 0 (PT.map (Value.int .u64)) from hra)
  have HRB := Lib.hid (show Row W (p + 1) 0 (PU.map (Value.int .u64)) from hrb)
  have HKW := Lib.hid hk; have HRres := Lib.hid hrz
  clear hp hra hrb hrc hrz hk hs
  go_upto_region 4 with (go_at_call 43; refine (HINF.out p _ HRA.out).mono ?_; rintro e V1 ⟨rfl, hk1⟩; have HV1 := Lib.hid hk1; clear hk1)
  have HRA := Lib.hid (HRA.out.keeps HV1.out)
  have HRB := Lib.hid (HRB.out.keeps HV1.out)
  have HRres := Lib.hid (HRres.out.keeps HV1.out)
  have HKW := Lib.hid (HKW.out.trans HV1.out)
  go_upto_region 6 with (go_at_call 43; refine (HINF2.out (p + 1) _ HRB.out).mono ?_; rintro e V2 ⟨rfl, hk1⟩; have HV2 := Lib.hid hk1; clear hk1)
  have HRA := Lib.hid (HRA.out.keeps HV2.out)
  have HRB := Lib.hid (HRB.out.keeps HV2.out)
  have HRres := Lib.hid (HRres.out.keeps HV2.out)
  have HKW := Lib.hid (HKW.out.trans HV2.out)
  have HRX := Lib.hid (row3 lX lY lZ (by have h := HRA.out; rwa [HPT.out] at h)).1
  have HRY := Lib.hid (row3 lX lY lZ (by have h := HRA.out; rwa [HPT.out] at h)).2.1
  have HRZ := Lib.hid (row3 lX lY lZ (by have h := HRA.out; rwa [HPT.out] at h)).2.2
  have HRU := Lib.hid (row3 lU lV lT (by have h := HRB.out; rwa [HPU.out] at h)).1
  have HRV := Lib.hid (row3 lU lV lT (by have h := HRB.out; rwa [HPU.out] at h)).2.1
  have HRT := Lib.hid (row3 lU lV lT (by have h := HRB.out; rwa [HPU.out] at h)).2.2
  refine wp_region_keep 14 [12, 13] [0, 1, 2, 3, 4, 5, 6, 7, 8, 9, 10, 11] (fun _ => zeros4) (by kernel_rfl) (by kernel_rfl) (by intro i hi; simp only [List.mem_cons, List.not_mem_nil, or_false] at hi; (first | (rcases hi with rfl | rfl) | subst hi) <;> exact ⟨_, rfl, alloc_num rfl rfl⟩) ?_
  iterate 2 refine kp (h := ?_)
  refine kl (fun wS hS => (HRZ.out.keeps hS)) lZ (h := ?_)
  refine kp (h := ?_)
  refine kl (fun wS hS => (HRZ.out.keeps hS)) lZ (h := ?_)
  refine kc (hc := by exact fun wS hS => HC1.out wS (HKW.out.trans hS)) (h := ?_)
  iterate 2 refine kp (h := ?_)
  refine kl (fun wS hS => (HRT.out.keeps hS)) lT (h := ?_)
  refine kp (h := ?_)
  refine kl (fun wS hS => (HRT.out.keeps hS)) lT (h := ?_)
  refine kc (hc := by exact fun wS hS => HC2.out wS (HKW.out.trans hS)) (h := ?_)
  refine keep_nil ?_
  intro GG V1 hk1 hG
  obtain ⟨ha12, hz12, hd12⟩ := hG 12 (by simp)
  obtain ⟨ha13, hz13, hd13⟩ := hG 13 (by simp)
  have hne9 := hd12 13 (by simp) (by decide)
  clear hd12
  clear hd13
  simp only [putsA, dstAt, ptrV, kD, kG, kP, Option.bind_some]
  generalize GG 12 = g1 at *
  generalize GG 13 = g2 at *
  clear hG
  have HZ12 := Lib.hid hz12; have HB12 := Lib.hid (show _ ≤ _ from ha12)
  have HZ13 := Lib.hid hz13; have HB13 := Lib.hid (show _ ≤ _ from ha13)
  clear hz12 ha12
  clear hz13 ha13
  have HV1 := Lib.hid hk1; clear hk1
  go_upto_region 7 with (first | (refine ws (g := _) (olds := zeros4) HZ12.out lC1 rfl (h := ?_); intro W2 hr2 hc2; have HN1 := Lib.hid hr2; have HC1 := Lib.hid hc2; clear hr2 hc2) | (refine ws (g := _) (olds := zeros4) (HZ13.out.chg HC1.out (by omega)) lC2 rfl (h := ?_); intro W3 hr2 hc2; have HN2 := Lib.hid hr2; have HC2 := Lib.hid hc2; clear hr2 hc2))
  have HK2 := Lib.hid (nm_keeps_chg (nm_keeps_chg HV1.out HC1.out HB12.out) HC2.out HB13.out)
  have HN1 := Lib.hid (HN1.out.chg HC2.out (by omega))
  have hlt_res_g1 := Nat.lt_of_lt_of_le (HRres.out.lt (by intro e; rw [e] at hZr; cases hZr)) HB12.out
  have hlt_res_g2 := Nat.lt_of_lt_of_le (HRres.out.lt (by intro e; rw [e] at hZr; cases hZr)) HB13.out
  have HRA := Lib.hid (HRA.out.keeps HK2.out)
  have HRX := Lib.hid (HRX.out.keeps HK2.out)
  have HRY := Lib.hid (HRY.out.keeps HK2.out)
  have HRZ := Lib.hid (HRZ.out.keeps HK2.out)
  have HRB := Lib.hid (HRB.out.keeps HK2.out)
  have HRU := Lib.hid (HRU.out.keeps HK2.out)
  have HRV := Lib.hid (HRV.out.keeps HK2.out)
  have HRT := Lib.hid (HRT.out.keeps HK2.out)
  have HRres := Lib.hid (HRres.out.keeps HK2.out)
  have HKW := Lib.hid (HKW.out.trans HK2.out)
  have HRg1 := HN1
  have HRg2 := HN2
  refine wp_region_keep 12 [10, 11] [0, 1, 2, 3, 4, 5, 6, 7, 8, 9] (fun _ => zeros4) (by kernel_rfl) (by kernel_rfl) (by intro i hi; simp only [List.mem_cons, List.not_mem_nil, or_false] at hi; (first | (rcases hi with rfl | rfl) | subst hi) <;> exact ⟨_, rfl, alloc_num rfl rfl⟩) ?_
  iterate 2 refine kp (h := ?_)
  refine kl (fun wS hS => (HRX.out.keeps hS)) lX (h := ?_)
  refine kl (fun wS hS => (HRg2.out.keeps hS)) lC2 (h := ?_)
  refine kc (hc := by exact fun wS hS => HC3.out wS (HKW.out.trans hS)) (h := ?_)
  iterate 2 refine kp (h := ?_)
  refine kl (fun wS hS => (HRU.out.keeps hS)) lU (h := ?_)
  refine kl (fun wS hS => (HRg1.out.keeps hS)) lC1 (h := ?_)
  refine kc (hc := by exact fun wS hS => HC4.out wS (HKW.out.trans hS)) (h := ?_)
  refine keep_nil ?_
  intro GG V1 hk1 hG
  obtain ⟨ha10, hz10, hd10⟩ := hG 10 (by simp)
  obtain ⟨ha11, hz11, hd11⟩ := hG 11 (by simp)
  have hne9 := hd10 11 (by simp) (by decide)
  clear hd10
  clear hd11
  simp only [putsA, dstAt, ptrV, kD, kG, kP, Option.bind_some]
  generalize GG 10 = g3 at *
  generalize GG 11 = g4 at *
  clear hG
  have HZ10 := Lib.hid hz10; have HB10 := Lib.hid (show _ ≤ _ from ha10)
  have HZ11 := Lib.hid hz11; have HB11 := Lib.hid (show _ ≤ _ from ha11)
  clear hz10 ha10
  clear hz11 ha11
  have HV1 := Lib.hid hk1; clear hk1
  go_upto_region 8 with (first | (refine ws (g := _) (olds := zeros4) HZ10.out lC3 rfl (h := ?_); intro W2 hr2 hc2; have HN1 := Lib.hid hr2; have HC1 := Lib.hid hc2; clear hr2 hc2) | (refine ws (g := _) (olds := zeros4) (HZ11.out.chg HC1.out (by omega)) lC4 rfl (h := ?_); intro W3 hr2 hc2; have HN2 := Lib.hid hr2; have HC2 := Lib.hid hc2; clear hr2 hc2))
  have HK2 := Lib.hid (nm_keeps_chg (nm_keeps_chg HV1.out HC1.out HB10.out) HC2.out HB11.out)
  have HN1 := Lib.hid (HN1.out.chg HC2.out (by omega))
  have hlt_g1_g3 := Nat.lt_of_lt_of_le (HRg1.out.lt (map_ne lC1)) HB10.out
  have hlt_g2_g3 := Nat.lt_of_lt_of_le (HRg2.out.lt (map_ne lC2)) HB10.out
  have hlt_g1_g4 := Nat.lt_of_lt_of_le (HRg1.out.lt (map_ne lC1)) HB11.out
  have hlt_g2_g4 := Nat.lt_of_lt_of_le (HRg2.out.lt (map_ne lC2)) HB11.out
  have HRA := Lib.hid (HRA.out.keeps HK2.out)
  have HRX := Lib.hid (HRX.out.keeps HK2.out)
  have HRY := Lib.hid (HRY.out.keeps HK2.out)
  have HRZ := Lib.hid (HRZ.out.keeps HK2.out)
  have HRB := Lib.hid (HRB.out.keeps HK2.out)
  have HRU := Lib.hid (HRU.out.keeps HK2.out)
  have HRV := Lib.hid (HRV.out.keeps HK2.out)
  have HRT := Lib.hid (HRT.out.keeps HK2.out)
  have HRres := Lib.hid (HRres.out.keeps HK2.out)
  have HRg1 := Lib.hid (HRg1.out.keeps HK2.out)
  have HRg2 := Lib.hid (HRg2.out.keeps HK2.out)
  have HKW := Lib.hid (HKW.out.trans HK2.out)
  have HRg3 := HN1
  have HRg4 := HN2
  refine wp_region_keep 20 [18, 19] [0, 1, 2, 3, 4, 5, 6, 7, 8, 9, 10, 11, 12, 13, 14, 15, 16, 17] (fun _ => zeros4) (by kernel_rfl) (by kernel_rfl) (by intro i hi; simp only [List.mem_cons, List.not_mem_nil, or_false] at hi; (first | (rcases hi with rfl | rfl) | subst hi) <;> exact ⟨_, rfl, alloc_num rfl rfl⟩) ?_
  iterate 2 refine kp (h := ?_)
  refine kl (fun wS hS => (HRY.out.keeps hS)) lY (h := ?_)
  iterate 2 refine kp (h := ?_)
  refine kl (fun wS hS => (HRT.out.keeps hS)) lT (h := ?_)
  refine kl (fun wS hS => (HRg2.out.keeps hS)) lC2 (h := ?_)
  refine kc (hc := by exact fun wS hS => HC5.out wS (HKW.out.trans hS)) (h := ?_)
  refine kc (hc := by exact fun wS hS => HC6.out wS (HKW.out.trans hS)) (h := ?_)
  iterate 2 refine kp (h := ?_)
  refine kl (fun wS hS => (HRV.out.keeps hS)) lV (h := ?_)
  iterate 2 refine kp (h := ?_)
  refine kl (fun wS hS => (HRZ.out.keeps hS)) lZ (h := ?_)
  refine kl (fun wS hS => (HRg1.out.keeps hS)) lC1 (h := ?_)
  refine kc (hc := by exact fun wS hS => HC7.out wS (HKW.out.trans hS)) (h := ?_)
  refine kc (hc := by exact fun wS hS => HC8.out wS (HKW.out.trans hS)) (h := ?_)
  refine keep_nil ?_
  intro GG V1 hk1 hG
  obtain ⟨ha18, hz18, hd18⟩ := hG 18 (by simp)
  obtain ⟨ha19, hz19, hd19⟩ := hG 19 (by simp)
  have hne9 := hd18 19 (by simp) (by decide)
  clear hd18
  clear hd19
  simp only [putsA, dstAt, ptrV, kD, kG, kP, Option.bind_some]
  generalize GG 18 = g5 at *
  generalize GG 19 = g6 at *
  clear hG
  have HZ18 := Lib.hid hz18; have HB18 := Lib.hid (show _ ≤ _ from ha18)
  have HZ19 := Lib.hid hz19; have HB19 := Lib.hid (show _ ≤ _ from ha19)
  clear hz18 ha18
  clear hz19 ha19
  have HV1 := Lib.hid hk1; clear hk1
  go_upto_region 9 with (first | (refine ws (g := _) (olds := zeros4) HZ18.out lC6 rfl (h := ?_); intro W2 hr2 hc2; have HN1 := Lib.hid hr2; have HC1 := Lib.hid hc2; clear hr2 hc2) | (refine ws (g := _) (olds := zeros4) (HZ19.out.chg HC1.out (by omega)) lC8 rfl (h := ?_); intro W3 hr2 hc2; have HN2 := Lib.hid hr2; have HC2 := Lib.hid hc2; clear hr2 hc2))
  have HK2 := Lib.hid (nm_keeps_chg (nm_keeps_chg HV1.out HC1.out HB18.out) HC2.out HB19.out)
  have HN1 := Lib.hid (HN1.out.chg HC2.out (by omega))
  have hlt_g3_g5 := Nat.lt_of_lt_of_le (HRg3.out.lt (map_ne lC3)) HB18.out
  have hlt_g4_g5 := Nat.lt_of_lt_of_le (HRg4.out.lt (map_ne lC4)) HB18.out
  have hlt_g3_g6 := Nat.lt_of_lt_of_le (HRg3.out.lt (map_ne lC3)) HB19.out
  have hlt_g4_g6 := Nat.lt_of_lt_of_le (HRg4.out.lt (map_ne lC4)) HB19.out
  have HRA := Lib.hid (HRA.out.keeps HK2.out)
  have HRX := Lib.hid (HRX.out.keeps HK2.out)
  have HRY := Lib.hid (HRY.out.keeps HK2.out)
  have HRZ := Lib.hid (HRZ.out.keeps HK2.out)
  have HRB := Lib.hid (HRB.out.keeps HK2.out)
  have HRU := Lib.hid (HRU.out.keeps HK2.out)
  have HRV := Lib.hid (HRV.out.keeps HK2.out)
  have HRT := Lib.hid (HRT.out.keeps HK2.out)
  have HRres := Lib.hid (HRres.out.keeps HK2.out)
  have HRg1 := Lib.hid (HRg1.out.keeps HK2.out)
  have HRg2 := Lib.hid (HRg2.out.keeps HK2.out)
  have HRg3 := Lib.hid (HRg3.out.keeps HK2.out)
  have HRg4 := Lib.hid (HRg4.out.keeps HK2.out)
  have HKW := Lib.hid (HKW.out.trans HK2.out)
  have HRg5 := HN1
  have HRg6 := HN2
  refine wp_region_keep 10 [8, 9] [0, 1, 2, 3, 4, 5, 6, 7] (fun _ => zeros4) (by kernel_rfl) (by kernel_rfl) (by intro i hi; simp only [List.mem_cons, List.not_mem_nil, or_false] at hi; (first | (rcases hi with rfl | rfl) | subst hi) <;> exact ⟨_, rfl, alloc_num rfl rfl⟩) ?_
  refine kp (h := ?_)
  refine kl (fun wS hS => (HRg4.out.keeps hS)) lC4 (h := ?_)
  refine kl (fun wS hS => (HRg3.out.keeps hS)) lC3 (h := ?_)
  refine kc (hc := by exact fun wS hS => HC9.out wS (HKW.out.trans hS)) (h := ?_)
  refine kp (h := ?_)
  refine kl (fun wS hS => (HRg6.out.keeps hS)) lC8 (h := ?_)
  refine kl (fun wS hS => (HRg5.out.keeps hS)) lC6 (h := ?_)
  refine kc (hc := by exact fun wS hS => HC10.out wS (HKW.out.trans hS)) (h := ?_)
  refine keep_nil ?_
  intro GG V1 hk1 hG
  obtain ⟨ha8, hz8, hd8⟩ := hG 8 (by simp)
  obtain ⟨ha9, hz9, hd9⟩ := hG 9 (by simp)
  have hne9 := hd8 9 (by simp) (by decide)
  clear hd8
  clear hd9
  simp only [putsA, dstAt, ptrV, kD, kG, kP, Option.bind_some]
  generalize GG 8 = g7 at *
  generalize GG 9 = g8 at *
  clear hG
  have HZ8 := Lib.hid hz8; have HB8 := Lib.hid (show _ ≤ _ from ha8)
  have HZ9 := Lib.hid hz9; have HB9 := Lib.hid (show _ ≤ _ from ha9)
  clear hz8 ha8
  clear hz9 ha9
  have HV1 := Lib.hid hk1; clear hk1
  go_upto_region 10 with (first | (refine ws (g := _) (olds := zeros4) HZ8.out lC9 rfl (h := ?_); intro W2 hr2 hc2; have HN1 := Lib.hid hr2; have HC1 := Lib.hid hc2; clear hr2 hc2) | (refine ws (g := _) (olds := zeros4) (HZ9.out.chg HC1.out (by omega)) lC10 rfl (h := ?_); intro W3 hr2 hc2; have HN2 := Lib.hid hr2; have HC2 := Lib.hid hc2; clear hr2 hc2))
  have HK2 := Lib.hid (nm_keeps_chg (nm_keeps_chg HV1.out HC1.out HB8.out) HC2.out HB9.out)
  have HN1 := Lib.hid (HN1.out.chg HC2.out (by omega))
  have hlt_g5_g7 := Nat.lt_of_lt_of_le (HRg5.out.lt (map_ne lC6)) HB8.out
  have hlt_g6_g7 := Nat.lt_of_lt_of_le (HRg6.out.lt (map_ne lC8)) HB8.out
  have hlt_g5_g8 := Nat.lt_of_lt_of_le (HRg5.out.lt (map_ne lC6)) HB9.out
  have hlt_g6_g8 := Nat.lt_of_lt_of_le (HRg6.out.lt (map_ne lC8)) HB9.out
  have HRA := Lib.hid (HRA.out.keeps HK2.out)
  have HRX := Lib.hid (HRX.out.keeps HK2.out)
  have HRY := Lib.hid (HRY.out.keeps HK2.out)
  have HRZ := Lib.hid (HRZ.out.keeps HK2.out)
  have HRB := Lib.hid (HRB.out.keeps HK2.out)
  have HRU := Lib.hid (HRU.out.keeps HK2.out)
  have HRV := Lib.hid (HRV.out.keeps HK2.out)
  have HRT := Lib.hid (HRT.out.keeps HK2.out)
  have HRres := Lib.hid (HRres.out.keeps HK2.out)
  have HRg1 := Lib.hid (HRg1.out.keeps HK2.out)
  have HRg2 := Lib.hid (HRg2.out.keeps HK2.out)
  have HRg3 := Lib.hid (HRg3.out.keeps HK2.out)
  have HRg4 := Lib.hid (HRg4.out.keeps HK2.out)
  have HRg5 := Lib.hid (HRg5.out.keeps HK2.out)
  have HRg6 := Lib.hid (HRg6.out.keeps HK2.out)
  have HKW := Lib.hid (HKW.out.trans HK2.out)
  have HRg7 := HN1
  have HRg8 := HN2
  go_upto_region 14 with (first | (refine wl HRg7.out lC9 (h := ?_)) | (go_at_call 38; refine (HZRO.out _).mono ?_; rintro e V1 ⟨rfl, hk1⟩; have HV1 := Lib.hid hk1; clear hk1))
  have HRA := Lib.hid (HRA.out.keeps HV1.out)
  have HRX := Lib.hid (HRX.out.keeps HV1.out)
  have HRY := Lib.hid (HRY.out.keeps HV1.out)
  have HRZ := Lib.hid (HRZ.out.keeps HV1.out)
  have HRB := Lib.hid (HRB.out.keeps HV1.out)
  have HRU := Lib.hid (HRU.out.keeps HV1.out)
  have HRV := Lib.hid (HRV.out.keeps HV1.out)
  have HRT := Lib.hid (HRT.out.keeps HV1.out)
  have HRres := Lib.hid (HRres.out.keeps HV1.out)
  have HRg1 := Lib.hid (HRg1.out.keeps HV1.out)
  have HRg2 := Lib.hid (HRg2.out.keeps HV1.out)
  have HRg3 := Lib.hid (HRg3.out.keeps HV1.out)
  have HRg4 := Lib.hid (HRg4.out.keeps HV1.out)
  have HRg5 := Lib.hid (HRg5.out.keeps HV1.out)
  have HRg6 := Lib.hid (HRg6.out.keeps HV1.out)
  have HRg7 := Lib.hid (HRg7.out.keeps HV1.out)
  have HRg8 := Lib.hid (HRg8.out.keeps HV1.out)
  have HKW := Lib.hid (HKW.out.trans HV1.out)
  go_upto_region 15 with (first | (refine wl HRg7.out lC9 (h := ?_)) | (refine wl HRg7.out lC9 (h := ?_)) | (go_at_call 67; refine (HC11.out _ HKW.out).mono ?_; rintro e V1 ⟨rfl, hk1⟩; have HV1 := Lib.hid hk1; clear hk1) | (refine ws (g := V1.heap.size) (olds := zeros4) (Row.new _ _ _ rfl) lC11 rfl (h := ?_); intro W2 hr2 hc2; have HN := Lib.hid hr2; have HB := Lib.hid (show _ ≤ _ from (HV1.out).size); have HK2 := Lib.hid (nm_keeps_chg (nm_keeps_alloc (HV1.out) _) hc2 (HV1.out).size); clear hr2 hc2))
  generalize V1.heap.size = g9 at *
  have hlt_g7_g9 := Nat.lt_of_lt_of_le (HRg7.out.lt (map_ne lC9)) HB.out
  have hlt_g8_g9 := Nat.lt_of_lt_of_le (HRg8.out.lt (map_ne lC10)) HB.out
  have HRA := Lib.hid (HRA.out.keeps HK2.out)
  have HRX := Lib.hid (HRX.out.keeps HK2.out)
  have HRY := Lib.hid (HRY.out.keeps HK2.out)
  have HRZ := Lib.hid (HRZ.out.keeps HK2.out)
  have HRB := Lib.hid (HRB.out.keeps HK2.out)
  have HRU := Lib.hid (HRU.out.keeps HK2.out)
  have HRV := Lib.hid (HRV.out.keeps HK2.out)
  have HRT := Lib.hid (HRT.out.keeps HK2.out)
  have HRres := Lib.hid (HRres.out.keeps HK2.out)
  have HRg1 := Lib.hid (HRg1.out.keeps HK2.out)
  have HRg2 := Lib.hid (HRg2.out.keeps HK2.out)
  have HRg3 := Lib.hid (HRg3.out.keeps HK2.out)
  have HRg4 := Lib.hid (HRg4.out.keeps HK2.out)
  have HRg5 := Lib.hid (HRg5.out.keeps HK2.out)
  have HRg6 := Lib.hid (HRg6.out.keeps HK2.out)
  have HRg7 := Lib.hid (HRg7.out.keeps HK2.out)
  have HRg8 := Lib.hid (HRg8.out.keeps HK2.out)
  have HKW := Lib.hid (HKW.out.trans HK2.out)
  have HRg9 := HN
  refine wp_region_keep 10 [8, 9] [0, 1, 2, 3, 4, 5, 6, 7] (fun _ => zeros4) (by kernel_rfl) (by kernel_rfl) (by intro i hi; simp only [List.mem_cons, List.not_mem_nil, or_false] at hi; (first | (rcases hi with rfl | rfl) | subst hi) <;> exact ⟨_, rfl, alloc_num rfl rfl⟩) ?_
  refine kp (h := ?_)
  refine kl (fun wS hS => (HRg7.out.keeps hS)) lC9 (h := ?_)
  refine kl (fun wS hS => (HRg9.out.keeps hS)) lC11 (h := ?_)
  refine kc (hc := by exact fun wS hS => HC12.out wS (HKW.out.trans hS)) (h := ?_)
  refine kp (h := ?_)
  refine kl (fun wS hS => (HRg3.out.keeps hS)) lC3 (h := ?_)
  refine kl (fun wS hS => (HRg9.out.keeps hS)) lC11 (h := ?_)
  refine kc (hc := by exact fun wS hS => HC13.out wS (HKW.out.trans hS)) (h := ?_)
  refine keep_nil ?_
  intro GG V1 hk1 hG
  obtain ⟨ha8, hz8, hd8⟩ := hG 8 (by simp)
  obtain ⟨ha9, hz9, hd9⟩ := hG 9 (by simp)
  have hne9 := hd8 9 (by simp) (by decide)
  clear hd8
  clear hd9
  simp only [putsA, dstAt, ptrV, kD, kG, kP, Option.bind_some]
  generalize GG 8 = g10 at *
  generalize GG 9 = g11 at *
  clear hG
  have HZ8 := Lib.hid hz8; have HB8 := Lib.hid (show _ ≤ _ from ha8)
  have HZ9 := Lib.hid hz9; have HB9 := Lib.hid (show _ ≤ _ from ha9)
  clear hz8 ha8
  clear hz9 ha9
  have HV1 := Lib.hid hk1; clear hk1
  go_upto_region 16 with (first | (refine ws (g := _) (olds := zeros4) HZ8.out lC12 rfl (h := ?_); intro W2 hr2 hc2; have HN1 := Lib.hid hr2; have HC1 := Lib.hid hc2; clear hr2 hc2) | (refine ws (g := _) (olds := zeros4) (HZ9.out.chg HC1.out (by omega)) lC13 rfl (h := ?_); intro W3 hr2 hc2; have HN2 := Lib.hid hr2; have HC2 := Lib.hid hc2; clear hr2 hc2))
  have HK2 := Lib.hid (nm_keeps_chg (nm_keeps_chg HV1.out HC1.out HB8.out) HC2.out HB9.out)
  have HN1 := Lib.hid (HN1.out.chg HC2.out (by omega))
  have hlt_g9_g10 := Nat.lt_of_lt_of_le (HRg9.out.lt (map_ne lC11)) HB8.out
  have hlt_g9_g11 := Nat.lt_of_lt_of_le (HRg9.out.lt (map_ne lC11)) HB9.out
  have HRA := Lib.hid (HRA.out.keeps HK2.out)
  have HRX := Lib.hid (HRX.out.keeps HK2.out)
  have HRY := Lib.hid (HRY.out.keeps HK2.out)
  have HRZ := Lib.hid (HRZ.out.keeps HK2.out)
  have HRB := Lib.hid (HRB.out.keeps HK2.out)
  have HRU := Lib.hid (HRU.out.keeps HK2.out)
  have HRV := Lib.hid (HRV.out.keeps HK2.out)
  have HRT := Lib.hid (HRT.out.keeps HK2.out)
  have HRres := Lib.hid (HRres.out.keeps HK2.out)
  have HRg1 := Lib.hid (HRg1.out.keeps HK2.out)
  have HRg2 := Lib.hid (HRg2.out.keeps HK2.out)
  have HRg3 := Lib.hid (HRg3.out.keeps HK2.out)
  have HRg4 := Lib.hid (HRg4.out.keeps HK2.out)
  have HRg5 := Lib.hid (HRg5.out.keeps HK2.out)
  have HRg6 := Lib.hid (HRg6.out.keeps HK2.out)
  have HRg7 := Lib.hid (HRg7.out.keeps HK2.out)
  have HRg8 := Lib.hid (HRg8.out.keeps HK2.out)
  have HRg9 := Lib.hid (HRg9.out.keeps HK2.out)
  have HKW := Lib.hid (HKW.out.trans HK2.out)
  have HRg10 := HN1
  have HRg11 := HN2
  refine wp_region_keep 14 [13] [0, 1, 2, 3, 4, 5, 6, 7, 8, 9, 10, 11, 12] (fun _ => zeros4) (by kernel_rfl) (by kernel_rfl) (by intro i hi; simp only [List.mem_cons, List.not_mem_nil, or_false] at hi; (first | (rcases hi with rfl | rfl) | subst hi) <;> exact ⟨_, rfl, alloc_num rfl rfl⟩) ?_
  iterate 3 refine kp (h := ?_)
  refine kl (fun wS hS => (HRg8.out.keeps hS)) lC10 (h := ?_)
  refine kl (fun wS hS => (HRg8.out.keeps hS)) lC10 (h := ?_)
  refine kc (hc := by exact fun wS hS => HC14.out wS (HKW.out.trans hS)) (h := ?_)
  refine kl (fun wS hS => (HRg10.out.keeps hS)) lC12 (h := ?_)
  refine kc (hc := by exact fun wS hS => HC15.out wS (HKW.out.trans hS)) (h := ?_)
  refine kp (h := ?_)
  refine kl (fun wS hS => (HRg11.out.keeps hS)) lC13 (h := ?_)
  refine kl (fun wS hS => (HRg11.out.keeps hS)) lC13 (h := ?_)
  refine kc (hc := by exact fun wS hS => HC16.out wS (HKW.out.trans hS)) (h := ?_)
  refine kc (hc := by exact fun wS hS => HC17.out wS (HKW.out.trans hS)) (h := ?_)
  refine keep_nil ?_
  intro GG V1 hk1 hG
  obtain ⟨ha13, hz13, hd13⟩ := hG 13 (by simp)
  clear hd13
  simp only [putsA, dstAt, ptrV, kD, kG, kP, Option.bind_some]
  generalize GG 13 = g12 at *
  clear hG
  have HZ13 := Lib.hid hz13; have HB13 := Lib.hid (show _ ≤ _ from ha13)
  clear hz13 ha13
  have HV1 := Lib.hid hk1; clear hk1
  go_upto_region 17 with (first | (refine ws (g := _) (olds := zeros4) HZ13.out lC17 rfl (h := ?_); intro W2 hr2 hc2; have HN1 := Lib.hid hr2; have HC1 := Lib.hid hc2; clear hr2 hc2))
  have HN := HN1; have HB := HB13
  have HK2 := Lib.hid (nm_keeps_chg HV1.out HC1.out HB.out)
  have hlt_g10_g12 := Nat.lt_of_lt_of_le (HRg10.out.lt (map_ne lC12)) HB.out
  have hlt_g11_g12 := Nat.lt_of_lt_of_le (HRg11.out.lt (map_ne lC13)) HB.out
  have HRA := Lib.hid (HRA.out.keeps HK2.out)
  have HRX := Lib.hid (HRX.out.keeps HK2.out)
  have HRY := Lib.hid (HRY.out.keeps HK2.out)
  have HRZ := Lib.hid (HRZ.out.keeps HK2.out)
  have HRB := Lib.hid (HRB.out.keeps HK2.out)
  have HRU := Lib.hid (HRU.out.keeps HK2.out)
  have HRV := Lib.hid (HRV.out.keeps HK2.out)
  have HRT := Lib.hid (HRT.out.keeps HK2.out)
  have HRres := Lib.hid (HRres.out.keeps HK2.out)
  have HRg1 := Lib.hid (HRg1.out.keeps HK2.out)
  have HRg2 := Lib.hid (HRg2.out.keeps HK2.out)
  have HRg3 := Lib.hid (HRg3.out.keeps HK2.out)
  have HRg4 := Lib.hid (HRg4.out.keeps HK2.out)
  have HRg5 := Lib.hid (HRg5.out.keeps HK2.out)
  have HRg6 := Lib.hid (HRg6.out.keeps HK2.out)
  have HRg7 := Lib.hid (HRg7.out.keeps HK2.out)
  have HRg8 := Lib.hid (HRg8.out.keeps HK2.out)
  have HRg9 := Lib.hid (HRg9.out.keeps HK2.out)
  have HRg10 := Lib.hid (HRg10.out.keeps HK2.out)
  have HRg11 := Lib.hid (HRg11.out.keeps HK2.out)
  have HKW := Lib.hid (HKW.out.trans HK2.out)
  have HRg12 := HN
  refine wp_region_keep 24 [] [0, 1, 2, 3, 4, 5, 6, 7, 8, 9, 10, 11, 12, 13, 14, 15, 16, 17, 18, 19, 20, 21, 22, 23] (fun _ => zeros4) (by kernel_rfl) (by kernel_rfl) (by intro i hi; cases hi) ?_
  refine kl (fun wS hS => (HRg12.out.keeps hS)) lC17 (h := ?_)
  iterate 2 refine kp (h := ?_)
  refine kl (fun wS hS => (HRg8.out.keeps hS)) lC10 (h := ?_)
  refine kp (h := ?_)
  refine kl (fun wS hS => (HRg11.out.keeps hS)) lC13 (h := ?_)
  refine kl (fun wS hS => (HRg12.out.keeps hS)) lC17 (h := ?_)
  refine kc (hc := by exact fun wS hS => HC18.out wS (HKW.out.trans hS)) (h := ?_)
  refine kc (hc := by exact fun wS hS => HC19.out wS (HKW.out.trans hS)) (h := ?_)
  refine kp (h := ?_)
  refine kl (fun wS hS => (HRg5.out.keeps hS)) lC6 (h := ?_)
  refine kl (fun wS hS => (HRg10.out.keeps hS)) lC12 (h := ?_)
  refine kc (hc := by exact fun wS hS => HC20.out wS (HKW.out.trans hS)) (h := ?_)
  refine kc (hc := by exact fun wS hS => HC21.out wS (HKW.out.trans hS)) (h := ?_)
  refine kp (h := ?_)
  refine kl (fun wS hS => (HRg7.out.keeps hS)) lC9 (h := ?_)
  iterate 2 refine kp (h := ?_)
  refine kl (fun wS hS => (HRZ.out.keeps hS)) lZ (h := ?_)
  refine kp (h := ?_)
  refine kl (fun wS hS => (HRT.out.keeps hS)) lT (h := ?_)
  refine kc (hc := by exact fun wS hS => HC22.out wS (HKW.out.trans hS)) (h := ?_)
  refine kc (hc := by exact fun wS hS => HC23.out wS (HKW.out.trans hS)) (h := ?_)
  refine kp (hx := by intro wS hS; (refine cu_run_build 76 [(0, .tmp 108), (1, .tmp 121), (2, .tmp 130)] ?_ _ ?_ _ HBP.out) <;> rfl) (h := ?_)
  refine keep_nil ?_
  intro GG V1 hk1 hG
  simp only [putsA, dstAt, ptrV, kD, kG, kP, Option.bind_some]
  clear hG
  have HV1 := Lib.hid hk1; clear hk1
  go_wp2_with (first | (refine ws (HRres.out.keeps HV1.out) lRT (by rw [hZr]) (h := ?_); intro W2 hr2 hc2; have HN := Lib.hid hr2; have HC := Lib.hid hc2; clear hr2 hc2))
  have HRA := Lib.hid (((HRA.out.keeps HV1.out)).chg HC.out (by omega))
  have HRX := Lib.hid (((HRX.out.keeps HV1.out)).chg HC.out (by omega))
  have HRY := Lib.hid (((HRY.out.keeps HV1.out)).chg HC.out (by omega))
  have HRZ := Lib.hid (((HRZ.out.keeps HV1.out)).chg HC.out (by omega))
  have HRB := Lib.hid (((HRB.out.keeps HV1.out)).chg HC.out (by omega))
  have HRU := Lib.hid (((HRU.out.keeps HV1.out)).chg HC.out (by omega))
  have HRV := Lib.hid (((HRV.out.keeps HV1.out)).chg HC.out (by omega))
  have HRT := Lib.hid (((HRT.out.keeps HV1.out)).chg HC.out (by omega))
  have HRg1 := Lib.hid (((HRg1.out.keeps HV1.out)).chg HC.out (by omega))
  have HRg2 := Lib.hid (((HRg2.out.keeps HV1.out)).chg HC.out (by omega))
  have HRg3 := Lib.hid (((HRg3.out.keeps HV1.out)).chg HC.out (by omega))
  have HRg4 := Lib.hid (((HRg4.out.keeps HV1.out)).chg HC.out (by omega))
  have HRg5 := Lib.hid (((HRg5.out.keeps HV1.out)).chg HC.out (by omega))
  have HRg6 := Lib.hid (((HRg6.out.keeps HV1.out)).chg HC.out (by omega))
  have HRg7 := Lib.hid (((HRg7.out.keeps HV1.out)).chg HC.out (by omega))
  have HRg8 := Lib.hid (((HRg8.out.keeps HV1.out)).chg HC.out (by omega))
  have HRg9 := Lib.hid (((HRg9.out.keeps HV1.out)).chg HC.out (by omega))
  have HRg10 := Lib.hid (((HRg10.out.keeps HV1.out)).chg HC.out (by omega))
  have HRg11 := Lib.hid (((HRg11.out.keeps HV1.out)).chg HC.out (by omega))
  have HRg12 := Lib.hid (((HRg12.out.keeps HV1.out)).chg HC.out (by omega))
  have HKW := Lib.hid (nm_keeps_chg ((HKW.out.trans HV1.out)) HC.out (by omega))
  exact bodyPost_ret (results_cell_at (p := 6) (ty := 76) rfl _ _ (p + 1 + 1) 0 _ _ rfl HN.out Tryd.underlying76 rfl (by rw [List.length_map, lRT]; exact sz_cpt)) rfl ⟨rfl, HKW.out⟩
end Go.Proofs.YtlofddoojkeakaaDoor
