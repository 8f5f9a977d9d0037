/- curve's group: double, over letters. No condition. -/
import Derived.Test.YtlofddoojkeakaaDoorGB8
namespace Go.Proofs.YtlofddoojkeakaaDoor
set_option linter.unusedVariables false
set_option linter.unusedSimpArgs false
open Go Go.RowKit

set_option maxRecDepth 100000 in
set_option maxHeartbeats 8000000 in
theorem dbl_walk (gg : Nat) (X Y Z C1 C2 C3 C4 C5 C6 C7 C8 C9 C10 C11 C12 C13 C14 C15 C16 C17 C18 C19 C20 C21  PT RT : List Int) (hPT : PT = X ++ Y ++ Z) (hRT : RT = C11 ++ C20 ++ C21) (lX : X.length = 4) (lY : Y.length = 4) (lZ : Z.length = 4) (lC1 : C1.length = 4) (lC2 : C2.length = 4) (lC3 : C3.length = 4) (lC4 : C4.length = 4) (lC5 : C5.length = 4) (lC6 : C6.length = 4) (lC7 : C7.length = 4) (lC8 : C8.length = 4) (lC9 : C9.length = 4) (lC10 : C10.length = 4) (lC11 : C11.length = 4) (lC12 : C12.length = 4) (lC13 : C13.length = 4) (lC14 : C14.length = 4) (lC15 : C15.length = 4) (lC16 : C16.length = 4) (lC17 : C17.length = 4) (lC18 : C18.length = 4) (lC19 : C19.length = 4) (lC20 : C20.length = 4) (lC21 : C21.length = 4) (w : World)
    (hinf : ∀ g W, Row W g 0 (PT.map (Value.int .u64)) → Calls Tryd.prog 43 #[.pointer (some ⟨g, 0, none⟩)] W fun e w' => e = .returned (.bool false) ∧ Keeps W w')
    (h1 : ∀ W, Keeps w W → Calls Tryd.prog 67 #[.pointer (some ⟨gg, 0, none⟩), .agg (Y.map (Value.int .u64)).toArray, .agg (Y.map (Value.int .u64)).toArray] W fun e w' => e = .returned (.agg (C1.map (Value.int .u64)).toArray) ∧ Keeps W w') (h2 : ∀ W, Keeps w W → Calls Tryd.prog 67 #[.pointer (some ⟨gg, 0, none⟩), .agg (X.map (Value.int .u64)).toArray, .agg (C1.map (Value.int .u64)).toArray] W fun e w' => e = .returned (.agg (C2.map (Value.int .u64)).toArray) ∧ Keeps W w') (h3 : ∀ W, Keeps w W → Calls Tryd.prog 37 #[.pointer (some ⟨gg, 0, none⟩), .agg (C2.map (Value.int .u64)).toArray, .agg (C2.map (Value.int .u64)).toArray] W fun e w' => e = .returned (.agg (C3.map (Value.int .u64)).toArray) ∧ Keeps W w') (h4 : ∀ W, Keeps w W → Calls Tryd.prog 37 #[.pointer (some ⟨gg, 0, none⟩), .agg (C2.map (Value.int .u64)).toArray, .agg (C2.map (Value.int .u64)).toArray] W fun e w' => e = .returned (.agg (C4.map (Value.int .u64)).toArray) ∧ Keeps W w') (h5 : ∀ W, Keeps w W → Calls Tryd.prog 37 #[.pointer (some ⟨gg, 0, none⟩), .agg (C3.map (Value.int .u64)).toArray, .agg (C4.map (Value.int .u64)).toArray] W fun e w' => e = .returned (.agg (C5.map (Value.int .u64)).toArray) ∧ Keeps W w') (h6 : ∀ W, Keeps w W → Calls Tryd.prog 67 #[.pointer (some ⟨gg, 0, none⟩), .agg (X.map (Value.int .u64)).toArray, .agg (X.map (Value.int .u64)).toArray] W fun e w' => e = .returned (.agg (C6.map (Value.int .u64)).toArray) ∧ Keeps W w') (h7 : ∀ W, Keeps w W → Calls Tryd.prog 37 #[.pointer (some ⟨gg, 0, none⟩), .agg (C6.map (Value.int .u64)).toArray, .agg (C6.map (Value.int .u64)).toArray] W fun e w' => e = .returned (.agg (C7.map (Value.int .u64)).toArray) ∧ Keeps W w') (h8 : ∀ W, Keeps w W → Calls Tryd.prog 37 #[.pointer (some ⟨gg, 0, none⟩), .agg (C7.map (Value.int .u64)).toArray, .agg (C6.map (Value.int .u64)).toArray] W fun e w' => e = .returned (.agg (C8.map (Value.int .u64)).toArray) ∧ Keeps W w') (h9 : ∀ W, Keeps w W → Calls Tryd.prog 67 #[.pointer (some ⟨gg, 0, none⟩), .agg (C8.map (Value.int .u64)).toArray, .agg (C8.map (Value.int .u64)).toArray] W fun e w' => e = .returned (.agg (C9.map (Value.int .u64)).toArray) ∧ Keeps W w') (h10 : ∀ W, Keeps w W → Calls Tryd.prog 37 #[.pointer (some ⟨gg, 0, none⟩), .agg (C5.map (Value.int .u64)).toArray, .agg (C5.map (Value.int .u64)).toArray] W fun e w' => e = .returned (.agg (C10.map (Value.int .u64)).toArray) ∧ Keeps W w') (h11 : ∀ W, Keeps w W → Calls Tryd.prog 68 #[.pointer (some ⟨gg, 0, none⟩), .agg (C9.map (Value.int .u64)).toArray, .agg (C10.map (Value.int .u64)).toArray] W fun e w' => e = .returned (.agg (C11.map (Value.int .u64)).toArray) ∧ Keeps W w') (h12 : ∀ W, Keeps w W → Calls Tryd.prog 67 #[.pointer (some ⟨gg, 0, none⟩), .agg (C1.map (Value.int .u64)).toArray, .agg (C1.map (Value.int .u64)).toArray] W fun e w' => e = .returned (.agg (C12.map (Value.int .u64)).toArray) ∧ Keeps W w') (h13 : ∀ W, Keeps w W → Calls Tryd.prog 37 #[.pointer (some ⟨gg, 0, none⟩), .agg (C12.map (Value.int .u64)).toArray, .agg (C12.map (Value.int .u64)).toArray] W fun e w' => e = .returned (.agg (C13.map (Value.int .u64)).toArray) ∧ Keeps W w') (h14 : ∀ W, Keeps w W → Calls Tryd.prog 37 #[.pointer (some ⟨gg, 0, none⟩), .agg (C12.map (Value.int .u64)).toArray, .agg (C12.map (Value.int .u64)).toArray] W fun e w' => e = .returned (.agg (C14.map (Value.int .u64)).toArray) ∧ Keeps W w') (h15 : ∀ W, Keeps w W → Calls Tryd.prog 37 #[.pointer (some ⟨gg, 0, none⟩), .agg (C13.map (Value.int .u64)).toArray, .agg (C14.map (Value.int .u64)).toArray] W fun e w' => e = .returned (.agg (C15.map (Value.int .u64)).toArray) ∧ Keeps W w') (h16 : ∀ W, Keeps w W → Calls Tryd.prog 67 #[.pointer (some ⟨gg, 0, none⟩), .agg (Y.map (Value.int .u64)).toArray, .agg (Z.map (Value.int .u64)).toArray] W fun e w' => e = .returned (.agg (C16.map (Value.int .u64)).toArray) ∧ Keeps W w') (h17 : ∀ W, Keeps w W → Calls Tryd.prog 68 #[.pointer (some ⟨gg, 0, none⟩), .agg (C5.map (Value.int .u64)).toArray, .agg (C11.map (Value.int .u64)).toArray] W fun e w' => e = .returned (.agg (C17.map (Value.int .u64)).toArray) ∧ Keeps W w') (h18 : ∀ W, Keeps w W → Calls Tryd.prog 67 #[.pointer (some ⟨gg, 0, none⟩), .agg (C8.map (Value.int .u64)).toArray, .agg (C17.map (Value.int .u64)).toArray] W fun e w' => e = .returned (.agg (C18.map (Value.int .u64)).toArray) ∧ Keeps W w') (h19 : ∀ W, Keeps w W → Calls Tryd.prog 37 #[.pointer (some ⟨gg, 0, none⟩), .agg (C15.map (Value.int .u64)).toArray, .agg (C15.map (Value.int .u64)).toArray] W fun e w' => e = .returned (.agg (C19.map (Value.int .u64)).toArray) ∧ Keeps W w') (h20 : ∀ W, Keeps w W → Calls Tryd.prog 68 #[.pointer (some ⟨gg, 0, none⟩), .agg (C18.map (Value.int .u64)).toArray, .agg (C19.map (Value.int .u64)).toArray] W fun e w' => e = .returned (.agg (C20.map (Value.int .u64)).toArray) ∧ Keeps W w') (h21 : ∀ W, Keeps w W → Calls Tryd.prog 37 #[.pointer (some ⟨gg, 0, none⟩), .agg (C16.map (Value.int .u64)).toArray, .agg (C16.map (Value.int .u64)).toArray] W fun e w' => e = .returned (.agg (C21.map (Value.int .u64)).toArray) ∧ Keeps W w') :
    Calls Tryd.prog 69 #[.pointer (some ⟨gg, 0, none⟩), .agg (PT.map (Value.int .u64)).toArray] w fun e w' => e = .returned (.agg (RT.map (Value.int .u64)).toArray) ∧ Keeps w w' := by
  have HC1 := Lib.hid h1; clear h1
  have HC2 := Lib.hid h2; clear h2
  have HC3 := Lib.hid h3; clear h3
  have HC4 := Lib.hid h4; clear h4
  have HC5 := Lib.hid h5; clear h5
  have HC6 := Lib.hid h6; clear h6
  have HC7 := Lib.hid h7; clear h7
  have HC8 := Lib.hid h8; clear h8
  have HC9 := Lib.hid h9; clear h9
  have HC10 := Lib.hid h10; clear h10
  have HC11 := Lib.hid h11; clear h11
  have HC12 := Lib.hid h12; clear h12
  have HC13 := Lib.hid h13; clear h13
  have HC14 := Lib.hid h14; clear h14
  have HC15 := Lib.hid h15; clear h15
  have HC16 := Lib.hid h16; clear h16
  have HC17 := Lib.hid h17; clear h17
  have HC18 := Lib.hid h18; clear h18
  have HC19 := Lib.hid h19; clear h19
  have HC20 := Lib.hid h20; clear h20
  have HC21 := Lib.hid h21; clear h21
  have HINF := Lib.hid hinf; clear hinf
  have lPT : PT.length = 12 := by rw [hPT]; exact len3 lX lY lZ
  have lRT : RT.length = 12 := by rw [hRT]; exact len3 lC11 lC20 lC21
  have hBP := built_cpt lC11 lC20 lC21
  rw [← hRT] at hBP
  have HBP := Lib.hid hBP
  have HPT := Lib.hid hPT
  clear hBP hPT hRT
  go_enter Tryd.func69, Tryd.ntmps69
  go_upto_region 1 with (fail)
  refine cu_rows2 (fun W hk hra hrb hs => ?_)
  obtain ⟨p, hp⟩ : ∃ p, p = w.heap.size := ⟨_, rfl⟩
  rw [← hp] at hra hrb hs ⊢
  have hkp : w.heap.size ≤ p := by omega
  obtain ⟨Zr, hZr, hrz⟩ : ∃ Zr : List Value, Zr.length = 4 + 4 + 4 ∧ Row W (p + 1) 0 Zr := ⟨_, rfl, hrb⟩
  have HRA := Lib.hid (show Row W p 0 (PT.map (Value.int .u64)) from hra)
  have HKW := Lib.hid hk; have HRres := Lib.hid hrz
  clear hp hra hrb hrz hk hs
  go_upto_region 4 with (go_at_call 43; refine (HINF.out p _ HRA.out).mono ?_; rintro e V1 ⟨rfl, hk1⟩; have HV1 := Lib.hid hk1; clear hk1)
  have HRA := Lib.hid (HRA.out.keeps HV1.out)
  have HRres := Lib.hid (HRres.out.keeps HV1.out)
  have HKW := Lib.hid (HKW.out.trans HV1.out)
  have HRX := Lib.hid (row3 lX lY lZ (by have h := HRA.out; rwa [HPT.out] at h)).1
  have HRY := Lib.hid (row3 lX lY lZ (by have h := HRA.out; rwa [HPT.out] at h)).2.1
  have HRZ := Lib.hid (row3 lX lY lZ (by have h := HRA.out; rwa [HPT.out] at h)).2.2
  go_upto_region 5 with (first | (refine wl HRY.out lY (h := ?_)) | (refine wl HRY.out lY (h := ?_)) | (go_at_call 67; refine (HC1.out _ HKW.out).mono ?_; rintro e V1 ⟨rfl, hk1⟩; have HV1 := Lib.hid hk1; clear hk1) | (refine ws (g := V1.heap.size) (olds := zeros4) (Row.new _ _ _ rfl) lC1 rfl (h := ?_); intro W2 hr2 hc2; have HN := Lib.hid hr2; have HB := Lib.hid (show _ ≤ _ from (HV1.out).size); have HK2 := Lib.hid (nm_keeps_chg (nm_keeps_alloc (HV1.out) _) hc2 (HV1.out).size); clear hr2 hc2))
  generalize V1.heap.size = g1 at *
  have hlt_res_g1 := Nat.lt_of_lt_of_le (HRres.out.lt (by intro e; rw [e] at hZr; cases hZr)) HB.out
  have HRA := Lib.hid (HRA.out.keeps HK2.out)
  have HRX := Lib.hid (HRX.out.keeps HK2.out)
  have HRY := Lib.hid (HRY.out.keeps HK2.out)
  have HRZ := Lib.hid (HRZ.out.keeps HK2.out)
  have HRres := Lib.hid (HRres.out.keeps HK2.out)
  have HKW := Lib.hid (HKW.out.trans HK2.out)
  have HRg1 := HN
  go_upto_region 6 with (first | (refine wl HRX.out lX (h := ?_)) | (refine wl HRg1.out lC1 (h := ?_)) | (go_at_call 67; refine (HC2.out _ HKW.out).mono ?_; rintro e V1 ⟨rfl, hk1⟩; have HV1 := Lib.hid hk1; clear hk1) | (refine ws (g := V1.heap.size) (olds := zeros4) (Row.new _ _ _ rfl) lC2 rfl (h := ?_); intro W2 hr2 hc2; have HN := Lib.hid hr2; have HB := Lib.hid (show _ ≤ _ from (HV1.out).size); have HK2 := Lib.hid (nm_keeps_chg (nm_keeps_alloc (HV1.out) _) hc2 (HV1.out).size); clear hr2 hc2))
  generalize V1.heap.size = g2 at *
  have hlt_g1_g2 := Nat.lt_of_lt_of_le (HRg1.out.lt (map_ne lC1)) HB.out
  have HRA := Lib.hid (HRA.out.keeps HK2.out)
  have HRX := Lib.hid (HRX.out.keeps HK2.out)
  have HRY := Lib.hid (HRY.out.keeps HK2.out)
  have HRZ := Lib.hid (HRZ.out.keeps HK2.out)
  have HRres := Lib.hid (HRres.out.keeps HK2.out)
  have HRg1 := Lib.hid (HRg1.out.keeps HK2.out)
  have HKW := Lib.hid (HKW.out.trans HK2.out)
  have HRg2 := HN
  refine wp_region_keep 10 [] [0, 1, 2, 3, 4, 5, 6, 7, 8, 9] (fun _ => zeros4) (by kernel_rfl) (by kernel_rfl) (by intro i hi; cases hi) ?_
  iterate 2 refine kp (h := ?_)
  refine kl (fun wS hS => (HRg2.out.keeps hS)) lC2 (h := ?_)
  refine kl (fun wS hS => (HRg2.out.keeps hS)) lC2 (h := ?_)
  refine kc (hc := by exact fun wS hS => HC3.out wS (HKW.out.trans hS)) (h := ?_)
  refine kp (h := ?_)
  refine kl (fun wS hS => (HRg2.out.keeps hS)) lC2 (h := ?_)
  refine kl (fun wS hS => (HRg2.out.keeps hS)) lC2 (h := ?_)
  refine kc (hc := by exact fun wS hS => HC4.out wS (HKW.out.trans hS)) (h := ?_)
  refine kc (hc := by exact fun wS hS => HC5.out wS (HKW.out.trans hS)) (h := ?_)
  refine keep_nil ?_
  intro GG V1 hk1 hG
  simp only [putsA, dstAt, ptrV, kD, kG, kP, Option.bind_some]
  clear hG
  have HV1 := Lib.hid hk1; clear hk1
  go_upto_region 7 with (first | (refine ws (HRg2.out.keeps HV1.out) lC5 (by rw [List.length_map, lC2]) (h := ?_); intro W2 hr2 hc2; have HN := Lib.hid hr2; have HC := Lib.hid hc2; clear hr2 hc2))
  have HRA := Lib.hid (((HRA.out.keeps HV1.out)).chg HC.out (by omega))
  have HRX := Lib.hid (((HRX.out.keeps HV1.out)).chg HC.out (by omega))
  have HRY := Lib.hid (((HRY.out.keeps HV1.out)).chg HC.out (by omega))
  have HRZ := Lib.hid (((HRZ.out.keeps HV1.out)).chg HC.out (by omega))
  have HRres := Lib.hid (((HRres.out.keeps HV1.out)).chg HC.out (by omega))
  have HRg1 := Lib.hid (((HRg1.out.keeps HV1.out)).chg HC.out (by omega))
  have HKW := Lib.hid (nm_keeps_chg ((HKW.out.trans HV1.out)) HC.out (by omega))
  have HRg2 := HN
  go_upto_region 8 with (first | (refine wl HRX.out lX (h := ?_)) | (refine wl HRX.out lX (h := ?_)) | (go_at_call 67; refine (HC6.out _ HKW.out).mono ?_; rintro e V1 ⟨rfl, hk1⟩; have HV1 := Lib.hid hk1; clear hk1) | (refine ws (g := V1.heap.size) (olds := zeros4) (Row.new _ _ _ rfl) lC6 rfl (h := ?_); intro W2 hr2 hc2; have HN := Lib.hid hr2; have HB := Lib.hid (show _ ≤ _ from (HV1.out).size); have HK2 := Lib.hid (nm_keeps_chg (nm_keeps_alloc (HV1.out) _) hc2 (HV1.out).size); clear hr2 hc2))
  generalize V1.heap.size = g3 at *
  have hlt_g2_g3 := Nat.lt_of_lt_of_le (HRg2.out.lt (map_ne lC5)) HB.out
  have HRA := Lib.hid (HRA.out.keeps HK2.out)
  have HRX := Lib.hid (HRX.out.keeps HK2.out)
  have HRY := Lib.hid (HRY.out.keeps HK2.out)
  have HRZ := Lib.hid (HRZ.out.keeps HK2.out)
  have HRres := Lib.hid (HRres.out.keeps HK2.out)
  have HRg1 := Lib.hid (HRg1.out.keeps HK2.out)
  have HRg2 := Lib.hid (HRg2.out.keeps HK2.out)
  have HKW := Lib.hid (HKW.out.trans HK2.out)
  have HRg3 := HN
  refine wp_region_keep 8 [7] [0, 1, 2, 3, 4, 5, 6] (fun _ => zeros4) (by kernel_rfl) (by kernel_rfl) (by intro i hi; simp only [List.mem_cons, List.not_mem_nil, or_false] at hi; (first | (rcases hi with rfl | rfl) | subst hi) <;> exact ⟨_, rfl, alloc_num rfl rfl⟩) ?_
  iterate 2 refine kp (h := ?_)
  refine kl (fun wS hS => (HRg3.out.keeps hS)) lC6 (h := ?_)
  refine kl (fun wS hS => (HRg3.out.keeps hS)) lC6 (h := ?_)
  refine kc (hc := by exact fun wS hS => HC7.out wS (HKW.out.trans hS)) (h := ?_)
  refine kl (fun wS hS => (HRg3.out.keeps hS)) lC6 (h := ?_)
  refine kc (hc := by exact fun wS hS => HC8.out wS (HKW.out.trans hS)) (h := ?_)
  refine keep_nil ?_
  intro GG V1 hk1 hG
  obtain ⟨ha7, hz7, hd7⟩ := hG 7 (by simp)
  clear hd7
  simp only [putsA, dstAt, ptrV, kD, kG, kP, Option.bind_some]
  generalize GG 7 = g4 at *
  clear hG
  have HZ7 := Lib.hid hz7; have HB7 := Lib.hid (show _ ≤ _ from ha7)
  clear hz7 ha7
  have HV1 := Lib.hid hk1; clear hk1
  go_upto_region 9 with (first | (refine ws (g := _) (olds := zeros4) HZ7.out lC8 rfl (h := ?_); intro W2 hr2 hc2; have HN1 := Lib.hid hr2; have HC1 := Lib.hid hc2; clear hr2 hc2))
  have HN := HN1; have HB := HB7
  have HK2 := Lib.hid (nm_keeps_chg HV1.out HC1.out HB.out)
  have hlt_g3_g4 := Nat.lt_of_lt_of_le (HRg3.out.lt (map_ne lC6)) HB.out
  have HRA := Lib.hid (HRA.out.keeps HK2.out)
  have HRX := Lib.hid (HRX.out.keeps HK2.out)
  have HRY := Lib.hid (HRY.out.keeps HK2.out)
  have HRZ := Lib.hid (HRZ.out.keeps HK2.out)
  have HRres := Lib.hid (HRres.out.keeps HK2.out)
  have HRg1 := Lib.hid (HRg1.out.keeps HK2.out)
  have HRg2 := Lib.hid (HRg2.out.keeps HK2.out)
  have HRg3 := Lib.hid (HRg3.out.keeps HK2.out)
  have HKW := Lib.hid (HKW.out.trans HK2.out)
  have HRg4 := HN
  refine wp_region_keep 11 [10] [0, 1, 2, 3, 4, 5, 6, 7, 8, 9] (fun _ => zeros4) (by kernel_rfl) (by kernel_rfl) (by intro i hi; simp only [List.mem_cons, List.not_mem_nil, or_false] at hi; (first | (rcases hi with rfl | rfl) | subst hi) <;> exact ⟨_, rfl, alloc_num rfl rfl⟩) ?_
  iterate 2 refine kp (h := ?_)
  refine kl (fun wS hS => (HRg4.out.keeps hS)) lC8 (h := ?_)
  refine kl (fun wS hS => (HRg4.out.keeps hS)) lC8 (h := ?_)
  refine kc (hc := by exact fun wS hS => HC9.out wS (HKW.out.trans hS)) (h := ?_)
  refine kp (h := ?_)
  refine kl (fun wS hS => (HRg2.out.keeps hS)) lC5 (h := ?_)
  refine kl (fun wS hS => (HRg2.out.keeps hS)) lC5 (h := ?_)
  refine kc (hc := by exact fun wS hS => HC10.out wS (HKW.out.trans hS)) (h := ?_)
  refine kc (hc := by exact fun wS hS => HC11.out wS (HKW.out.trans hS)) (h := ?_)
  refine keep_nil ?_
  intro GG V1 hk1 hG
  obtain ⟨ha10, hz10, hd10⟩ := hG 10 (by simp)
  clear hd10
  simp only [putsA, dstAt, ptrV, kD, kG, kP, Option.bind_some]
  generalize GG 10 = g5 at *
  clear hG
  have HZ10 := Lib.hid hz10; have HB10 := Lib.hid (show _ ≤ _ from ha10)
  clear hz10 ha10
  have HV1 := Lib.hid hk1; clear hk1
  go_upto_region 10 with (first | (refine ws (g := _) (olds := zeros4) HZ10.out lC11 rfl (h := ?_); intro W2 hr2 hc2; have HN1 := Lib.hid hr2; have HC1 := Lib.hid hc2; clear hr2 hc2))
  have HN := HN1; have HB := HB10
  have HK2 := Lib.hid (nm_keeps_chg HV1.out HC1.out HB.out)
  have hlt_g4_g5 := Nat.lt_of_lt_of_le (HRg4.out.lt (map_ne lC8)) HB.out
  have HRA := Lib.hid (HRA.out.keeps HK2.out)
  have HRX := Lib.hid (HRX.out.keeps HK2.out)
  have HRY := Lib.hid (HRY.out.keeps HK2.out)
  have HRZ := Lib.hid (HRZ.out.keeps HK2.out)
  have HRres := Lib.hid (HRres.out.keeps HK2.out)
  have HRg1 := Lib.hid (HRg1.out.keeps HK2.out)
  have HRg2 := Lib.hid (HRg2.out.keeps HK2.out)
  have HRg3 := Lib.hid (HRg3.out.keeps HK2.out)
  have HRg4 := Lib.hid (HRg4.out.keeps HK2.out)
  have HKW := Lib.hid (HKW.out.trans HK2.out)
  have HRg5 := HN
  go_upto_region 11 with (first | (refine wl HRg1.out lC1 (h := ?_)) | (refine wl HRg1.out lC1 (h := ?_)) | (go_at_call 67; refine (HC12.out _ HKW.out).mono ?_; rintro e V1 ⟨rfl, hk1⟩; have HV1 := Lib.hid hk1; clear hk1) | (refine ws (g := V1.heap.size) (olds := zeros4) (Row.new _ _ _ rfl) lC12 rfl (h := ?_); intro W2 hr2 hc2; have HN := Lib.hid hr2; have HB := Lib.hid (show _ ≤ _ from (HV1.out).size); have HK2 := Lib.hid (nm_keeps_chg (nm_keeps_alloc (HV1.out) _) hc2 (HV1.out).size); clear hr2 hc2))
  generalize V1.heap.size = g6 at *
  have hlt_g5_g6 := Nat.lt_of_lt_of_le (HRg5.out.lt (map_ne lC11)) HB.out
  have HRA := Lib.hid (HRA.out.keeps HK2.out)
  have HRX := Lib.hid (HRX.out.keeps HK2.out)
  have HRY := Lib.hid (HRY.out.keeps HK2.out)
  have HRZ := Lib.hid (HRZ.out.keeps HK2.out)
  have HRres := Lib.hid (HRres.out.keeps HK2.out)
  have HRg1 := Lib.hid (HRg1.out.keeps HK2.out)
  have HRg2 := Lib.hid (HRg2.out.keeps HK2.out)
  have HRg3 := Lib.hid (HRg3.out.keeps HK2.out)
  have HRg4 := Lib.hid (HRg4.out.keeps HK2.out)
  have HRg5 := Lib.hid (HRg5.out.keeps HK2.out)
  have HKW := Lib.hid (HKW.out.trans HK2.out)
  have HRg6 := HN
  refine wp_region_keep 10 [] [0, 1, 2, 3, 4, 5, 6, 7, 8, 9] (fun _ => zeros4) (by kernel_rfl) (by kernel_rfl) (by intro i hi; cases hi) ?_
  iterate 2 refine kp (h := ?_)
  refine kl (fun wS hS => (HRg6.out.keeps hS)) lC12 (h := ?_)
  refine kl (fun wS hS => (HRg6.out.keeps hS)) lC12 (h := ?_)
  refine kc (hc := by exact fun wS hS => HC13.out wS (HKW.out.trans hS)) (h := ?_)
  refine kp (h := ?_)
  refine kl (fun wS hS => (HRg6.out.keeps hS)) lC12 (h := ?_)
  refine kl (fun wS hS => (HRg6.out.keeps hS)) lC12 (h := ?_)
  refine kc (hc := by exact fun wS hS => HC14.out wS (HKW.out.trans hS)) (h := ?_)
  refine kc (hc := by exact fun wS hS => HC15.out wS (HKW.out.trans hS)) (h := ?_)
  refine keep_nil ?_
  intro GG V1 hk1 hG
  simp only [putsA, dstAt, ptrV, kD, kG, kP, Option.bind_some]
  clear hG
  have HV1 := Lib.hid hk1; clear hk1
  go_upto_region 12 with (first | (refine ws (HRg6.out.keeps HV1.out) lC15 (by rw [List.length_map, lC12]) (h := ?_); intro W2 hr2 hc2; have HN := Lib.hid hr2; have HC := Lib.hid hc2; clear hr2 hc2))
  have HRA := Lib.hid (((HRA.out.keeps HV1.out)).chg HC.out (by omega))
  have HRX := Lib.hid (((HRX.out.keeps HV1.out)).chg HC.out (by omega))
  have HRY := Lib.hid (((HRY.out.keeps HV1.out)).chg HC.out (by omega))
  have HRZ := Lib.hid (((HRZ.out.keeps HV1.out)).chg HC.out (by omega))
  have HRres := Lib.hid (((HRres.out.keeps HV1.out)).chg HC.out (by omega))
  have HRg1 := Lib.hid (((HRg1.out.keeps HV1.out)).chg HC.out (by omega))
  have HRg2 := Lib.hid (((HRg2.out.keeps HV1.out)).chg HC.out (by omega))
  have HRg3 := Lib.hid (((HRg3.out.keeps HV1.out)).chg HC.out (by omega))
  have HRg4 := Lib.hid (((HRg4.out.keeps HV1.out)).chg HC.out (by omega))
  have HRg5 := Lib.hid (((HRg5.out.keeps HV1.out)).chg HC.out (by omega))
  have HKW := Lib.hid (nm_keeps_chg ((HKW.out.trans HV1.out)) HC.out (by omega))
  have HRg6 := HN
  go_upto_region 13 with (first | (refine wl HRY.out lY (h := ?_)) | (refine wl HRZ.out lZ (h := ?_)) | (go_at_call 67; refine (HC16.out _ HKW.out).mono ?_; rintro e V1 ⟨rfl, hk1⟩; have HV1 := Lib.hid hk1; clear hk1) | (refine ws (g := V1.heap.size) (olds := zeros4) (Row.new _ _ _ rfl) lC16 rfl (h := ?_); intro W2 hr2 hc2; have HN := Lib.hid hr2; have HB := Lib.hid (show _ ≤ _ from (HV1.out).size); have HK2 := Lib.hid (nm_keeps_chg (nm_keeps_alloc (HV1.out) _) hc2 (HV1.out).size); clear hr2 hc2))
  generalize V1.heap.size = g7 at *
  have hlt_g6_g7 := Nat.lt_of_lt_of_le (HRg6.out.lt (map_ne lC15)) HB.out
  have HRA := Lib.hid (HRA.out.keeps HK2.out)
  have HRX := Lib.hid (HRX.out.keeps HK2.out)
  have HRY := Lib.hid (HRY.out.keeps HK2.out)
  have HRZ := Lib.hid (HRZ.out.keeps HK2.out)
  have HRres := Lib.hid (HRres.out.keeps HK2.out)
  have HRg1 := Lib.hid (HRg1.out.keeps HK2.out)
  have HRg2 := Lib.hid (HRg2.out.keeps HK2.out)
  have HRg3 := Lib.hid (HRg3.out.keeps HK2.out)
  have HRg4 := Lib.hid (HRg4.out.keeps HK2.out)
  have HRg5 := Lib.hid (HRg5.out.keeps HK2.out)
  have HRg6 := Lib.hid (HRg6.out.keeps HK2.out)
  have HKW := Lib.hid (HKW.out.trans HK2.out)
  have HRg7 := HN
  refine wp_region_keep 19 [] [0, 1, 2, 3, 4, 5, 6, 7, 8, 9, 10, 11, 12, 13, 14, 15, 16, 17, 18] (fun _ => zeros4) (by kernel_rfl) (by kernel_rfl) (by intro i hi; cases hi) ?_
  refine kl (fun wS hS => (HRg5.out.keeps hS)) lC11 (h := ?_)
  iterate 2 refine kp (h := ?_)
  refine kl (fun wS hS => (HRg4.out.keeps hS)) lC8 (h := ?_)
  refine kp (h := ?_)
  refine kl (fun wS hS => (HRg2.out.keeps hS)) lC5 (h := ?_)
  refine kl (fun wS hS => (HRg5.out.keeps hS)) lC11 (h := ?_)
  refine kc (hc := by exact fun wS hS => HC17.out wS (HKW.out.trans hS)) (h := ?_)
  refine kc (hc := by exact fun wS hS => HC18.out wS (HKW.out.trans hS)) (h := ?_)
  refine kp (h := ?_)
  refine kl (fun wS hS => (HRg6.out.keeps hS)) lC15 (h := ?_)
  refine kl (fun wS hS => (HRg6.out.keeps hS)) lC15 (h := ?_)
  refine kc (hc := by exact fun wS hS => HC19.out wS (HKW.out.trans hS)) (h := ?_)
  refine kc (hc := by exact fun wS hS => HC20.out wS (HKW.out.trans hS)) (h := ?_)
  refine kp (h := ?_)
  refine kl (fun wS hS => (HRg7.out.keeps hS)) lC16 (h := ?_)
  refine kl (fun wS hS => (HRg7.out.keeps hS)) lC16 (h := ?_)
  refine kc (hc := by exact fun wS hS => HC21.out wS (HKW.out.trans hS)) (h := ?_)
  refine kp (hx := by intro wS hS; (refine cu_run_build 76 [(0, .tmp 82), (1, .tmp 95), (2, .tmp 99)] ?_ _ ?_ _ HBP.out) <;> rfl) (h := ?_)
  refine keep_nil ?_
  intro GG V1 hk1 hG
  simp only [putsA, dstAt, ptrV, kD, kG, kP, Option.bind_some]
  clear hG
  have HV1 := Lib.hid hk1; clear hk1
  go_wp2_with (first | (refine ws (HRres.out.keeps HV1.out) lRT (by rw [hZr]) (h := ?_); intro W2 hr2 hc2; have HN := Lib.hid hr2; have HC := Lib.hid hc2; clear hr2 hc2))
  have HRA := Lib.hid (((HRA.out.keeps HV1.out)).chg HC.out (by omega))
  have HRX := Lib.hid (((HRX.out.keeps HV1.out)).chg HC.out (by omega))
  have HRY := Lib.hid (((HRY.out.keeps HV1.out)).chg HC.out (by omega))
  have HRZ := Lib.hid (((HRZ.out.keeps HV1.out)).chg HC.out (by omega))
  have HRg1 := Lib.hid (((HRg1.out.keeps HV1.out)).chg HC.out (by omega))
  have HRg2 := Lib.hid (((HRg2.out.keeps HV1.out)).chg HC.out (by omega))
  have HRg3 := Lib.hid (((HRg3.out.keeps HV1.out)).chg HC.out (by omega))
  have HRg4 := Lib.hid (((HRg4.out.keeps HV1.out)).chg HC.out (by omega))
  have HRg5 := Lib.hid (((HRg5.out.keeps HV1.out)).chg HC.out (by omega))
  have HRg6 := Lib.hid (((HRg6.out.keeps HV1.out)).chg HC.out (by omega))
  have HRg7 := Lib.hid (((HRg7.out.keeps HV1.out)).chg HC.out (by omega))
  have HKW := Lib.hid (nm_keeps_chg ((HKW.out.trans HV1.out)) HC.out (by omega))
  exact bodyPost_ret (results_cell_at (p := 4) (ty := 76) rfl _ _ (p + 1) 0 _ _ rfl HN.out Tryd.underlying76 rfl (by rw [List.length_map, lRT]; exact sz_cpt)) rfl ⟨rfl, HKW.out⟩
end Go.Proofs.YtlofddoojkeakaaDoor
