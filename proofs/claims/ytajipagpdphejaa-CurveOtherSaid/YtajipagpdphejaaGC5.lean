/- The reference's Plus, over letters. No condition. -/
import Derived.Test.YtajipagpdphejaaGC1
import Derived.Test.YtajipagpdphejaaGC4
namespace Go.Proofs.Ytajipagpdphejaa
set_option linter.unusedVariables false
set_option linter.unusedSimpArgs false
open Go Go.RowKit

theorem lK21 : (words8 21).length = 8 := words8_length 21
theorem built_r21 : Try.prog.built 37 [(0, .int .u32 21)] = some ((words8 21).map (Value.int .u32)).toArray := by kernel_rfl
set_option maxRecDepth 100000 in
set_option maxHeartbeats 16000000 in
theorem plus_walk (X Y Z U V T K21 C1 C2 C3 C4 C5 C6 C7 C8 C9 C10 C11 C12 C13 C14 C15 C16 C17 C18 C19 C20 C21 C22 C23 C24 C25 C26 C27 C28 C29 C30 C31 C32 C33 C34 PT PU RT : List Int) (hPT : PT = X ++ Y ++ Z) (hPU : PU = U ++ V ++ T) (hRT : RT = C28 ++ C31 ++ C34) (hK21 : Try.prog.built 37 [(0, .int .u32 21)] = some (K21.map (Value.int .u32)).toArray) (lK21 : K21.length = 8) (lX : X.length = 8) (lY : Y.length = 8) (lZ : Z.length = 8) (lU : U.length = 8) (lV : V.length = 8) (lT : T.length = 8) (lC1 : C1.length = 8) (lC2 : C2.length = 8) (lC3 : C3.length = 8) (lC4 : C4.length = 8) (lC5 : C5.length = 8) (lC6 : C6.length = 8) (lC7 : C7.length = 8) (lC8 : C8.length = 8) (lC9 : C9.length = 8) (lC10 : C10.length = 8) (lC11 : C11.length = 8) (lC12 : C12.length = 8) (lC13 : C13.length = 8) (lC14 : C14.length = 8) (lC15 : C15.length = 8) (lC16 : C16.length = 8) (lC17 : C17.length = 8) (lC18 : C18.length = 8) (lC19 : C19.length = 8) (lC20 : C20.length = 8) (lC21 : C21.length = 8) (lC22 : C22.length = 8) (lC23 : C23.length = 8) (lC24 : C24.length = 8) (lC25 : C25.length = 8) (lC26 : C26.length = 8) (lC27 : C27.length = 8) (lC28 : C28.length = 8) (lC29 : C29.length = 8) (lC30 : C30.length = 8) (lC31 : C31.length = 8) (lC32 : C32.length = 8) (lC33 : C33.length = 8) (lC34 : C34.length = 8) (w : World)
    (h1 : ∀ W, Keeps w W → Calls Try.prog 38 #[] W fun e w' => e = .returned (.agg (C1.map (Value.int .u32)).toArray) ∧ Keeps W w') (h2 : ∀ W, Keeps w W → Calls Try.prog 49 #[.agg (X.map (Value.int .u32)).toArray, .agg (U.map (Value.int .u32)).toArray, .agg (C1.map (Value.int .u32)).toArray] W fun e w' => e = .returned (.agg (C2.map (Value.int .u32)).toArray) ∧ Keeps W w') (h3 : ∀ W, Keeps w W → Calls Try.prog 49 #[.agg (Y.map (Value.int .u32)).toArray, .agg (V.map (Value.int .u32)).toArray, .agg (C1.map (Value.int .u32)).toArray] W fun e w' => e = .returned (.agg (C3.map (Value.int .u32)).toArray) ∧ Keeps W w') (h4 : ∀ W, Keeps w W → Calls Try.prog 49 #[.agg (Z.map (Value.int .u32)).toArray, .agg (T.map (Value.int .u32)).toArray, .agg (C1.map (Value.int .u32)).toArray] W fun e w' => e = .returned (.agg (C4.map (Value.int .u32)).toArray) ∧ Keeps W w') (h5 : ∀ W, Keeps w W → Calls Try.prog 56 #[.agg (X.map (Value.int .u32)).toArray, .agg (Y.map (Value.int .u32)).toArray, .agg (C1.map (Value.int .u32)).toArray] W fun e w' => e = .returned (.agg (C5.map (Value.int .u32)).toArray) ∧ Keeps W w') (h6 : ∀ W, Keeps w W → Calls Try.prog 56 #[.agg (U.map (Value.int .u32)).toArray, .agg (V.map (Value.int .u32)).toArray, .agg (C1.map (Value.int .u32)).toArray] W fun e w' => e = .returned (.agg (C6.map (Value.int .u32)).toArray) ∧ Keeps W w') (h7 : ∀ W, Keeps w W → Calls Try.prog 49 #[.agg (C5.map (Value.int .u32)).toArray, .agg (C6.map (Value.int .u32)).toArray, .agg (C1.map (Value.int .u32)).toArray] W fun e w' => e = .returned (.agg (C7.map (Value.int .u32)).toArray) ∧ Keeps W w') (h8 : ∀ W, Keeps w W → Calls Try.prog 56 #[.agg (C2.map (Value.int .u32)).toArray, .agg (C3.map (Value.int .u32)).toArray, .agg (C1.map (Value.int .u32)).toArray] W fun e w' => e = .returned (.agg (C8.map (Value.int .u32)).toArray) ∧ Keeps W w') (h9 : ∀ W, Keeps w W → Calls Try.prog 26 #[.agg (C7.map (Value.int .u32)).toArray, .agg (C8.map (Value.int .u32)).toArray, .agg (C1.map (Value.int .u32)).toArray] W fun e w' => e = .returned (.agg (C9.map (Value.int .u32)).toArray) ∧ Keeps W w') (h10 : ∀ W, Keeps w W → Calls Try.prog 56 #[.agg (Y.map (Value.int .u32)).toArray, .agg (Z.map (Value.int .u32)).toArray, .agg (C1.map (Value.int .u32)).toArray] W fun e w' => e = .returned (.agg (C10.map (Value.int .u32)).toArray) ∧ Keeps W w') (h11 : ∀ W, Keeps w W → Calls Try.prog 56 #[.agg (V.map (Value.int .u32)).toArray, .agg (T.map (Value.int .u32)).toArray, .agg (C1.map (Value.int .u32)).toArray] W fun e w' => e = .returned (.agg (C11.map (Value.int .u32)).toArray) ∧ Keeps W w') (h12 : ∀ W, Keeps w W → Calls Try.prog 49 #[.agg (C10.map (Value.int .u32)).toArray, .agg (C11.map (Value.int .u32)).toArray, .agg (C1.map (Value.int .u32)).toArray] W fun e w' => e = .returned (.agg (C12.map (Value.int .u32)).toArray) ∧ Keeps W w') (h13 : ∀ W, Keeps w W → Calls Try.prog 56 #[.agg (C3.map (Value.int .u32)).toArray, .agg (C4.map (Value.int .u32)).toArray, .agg (C1.map (Value.int .u32)).toArray] W fun e w' => e = .returned (.agg (C13.map (Value.int .u32)).toArray) ∧ Keeps W w') (h14 : ∀ W, Keeps w W → Calls Try.prog 26 #[.agg (C12.map (Value.int .u32)).toArray, .agg (C13.map (Value.int .u32)).toArray, .agg (C1.map (Value.int .u32)).toArray] W fun e w' => e = .returned (.agg (C14.map (Value.int .u32)).toArray) ∧ Keeps W w') (h15 : ∀ W, Keeps w W → Calls Try.prog 56 #[.agg (X.map (Value.int .u32)).toArray, .agg (Z.map (Value.int .u32)).toArray, .agg (C1.map (Value.int .u32)).toArray] W fun e w' => e = .returned (.agg (C15.map (Value.int .u32)).toArray) ∧ Keeps W w') (h16 : ∀ W, Keeps w W → Calls Try.prog 56 #[.agg (U.map (Value.int .u32)).toArray, .agg (T.map (Value.int .u32)).toArray, .agg (C1.map (Value.int .u32)).toArray] W fun e w' => e = .returned (.agg (C16.map (Value.int .u32)).toArray) ∧ Keeps W w') (h17 : ∀ W, Keeps w W → Calls Try.prog 49 #[.agg (C15.map (Value.int .u32)).toArray, .agg (C16.map (Value.int .u32)).toArray, .agg (C1.map (Value.int .u32)).toArray] W fun e w' => e = .returned (.agg (C17.map (Value.int .u32)).toArray) ∧ Keeps W w') (h18 : ∀ W, Keeps w W → Calls Try.prog 56 #[.agg (C2.map (Value.int .u32)).toArray, .agg (C4.map (Value.int .u32)).toArray, .agg (C1.map (Value.int .u32)).toArray] W fun e w' => e = .returned (.agg (C18.map (Value.int .u32)).toArray) ∧ Keeps W w') (h19 : ∀ W, Keeps w W → Calls Try.prog 26 #[.agg (C17.map (Value.int .u32)).toArray, .agg (C18.map (Value.int .u32)).toArray, .agg (C1.map (Value.int .u32)).toArray] W fun e w' => e = .returned (.agg (C19.map (Value.int .u32)).toArray) ∧ Keeps W w') (h20 : ∀ W, Keeps w W → Calls Try.prog 56 #[.agg (C2.map (Value.int .u32)).toArray, .agg (C2.map (Value.int .u32)).toArray, .agg (C1.map (Value.int .u32)).toArray] W fun e w' => e = .returned (.agg (C20.map (Value.int .u32)).toArray) ∧ Keeps W w') (h21 : ∀ W, Keeps w W → Calls Try.prog 56 #[.agg (C20.map (Value.int .u32)).toArray, .agg (C2.map (Value.int .u32)).toArray, .agg (C1.map (Value.int .u32)).toArray] W fun e w' => e = .returned (.agg (C21.map (Value.int .u32)).toArray) ∧ Keeps W w') (h22 : ∀ W, Keeps w W → Calls Try.prog 49 #[.agg (K21.map (Value.int .u32)).toArray, .agg (C4.map (Value.int .u32)).toArray, .agg (C1.map (Value.int .u32)).toArray] W fun e w' => e = .returned (.agg (C22.map (Value.int .u32)).toArray) ∧ Keeps W w') (h23 : ∀ W, Keeps w W → Calls Try.prog 56 #[.agg (C3.map (Value.int .u32)).toArray, .agg (C22.map (Value.int .u32)).toArray, .agg (C1.map (Value.int .u32)).toArray] W fun e w' => e = .returned (.agg (C23.map (Value.int .u32)).toArray) ∧ Keeps W w') (h24 : ∀ W, Keeps w W → Calls Try.prog 26 #[.agg (C3.map (Value.int .u32)).toArray, .agg (C22.map (Value.int .u32)).toArray, .agg (C1.map (Value.int .u32)).toArray] W fun e w' => e = .returned (.agg (C24.map (Value.int .u32)).toArray) ∧ Keeps W w') (h25 : ∀ W, Keeps w W → Calls Try.prog 49 #[.agg (K21.map (Value.int .u32)).toArray, .agg (C19.map (Value.int .u32)).toArray, .agg (C1.map (Value.int .u32)).toArray] W fun e w' => e = .returned (.agg (C25.map (Value.int .u32)).toArray) ∧ Keeps W w') (h26 : ∀ W, Keeps w W → Calls Try.prog 49 #[.agg (C9.map (Value.int .u32)).toArray, .agg (C24.map (Value.int .u32)).toArray, .agg (C1.map (Value.int .u32)).toArray] W fun e w' => e = .returned (.agg (C26.map (Value.int .u32)).toArray) ∧ Keeps W w') (h27 : ∀ W, Keeps w W → Calls Try.prog 49 #[.agg (C14.map (Value.int .u32)).toArray, .agg (C25.map (Value.int .u32)).toArray, .agg (C1.map (Value.int .u32)).toArray] W fun e w' => e = .returned (.agg (C27.map (Value.int .u32)).toArray) ∧ Keeps W w') (h28 : ∀ W, Keeps w W → Calls Try.prog 26 #[.agg (C26.map (Value.int .u32)).toArray, .agg (C27.map (Value.int .u32)).toArray, .agg (C1.map (Value.int .u32)).toArray] W fun e w' => e = .returned (.agg (C28.map (Value.int .u32)).toArray) ∧ Keeps W w') (h29 : ∀ W, Keeps w W → Calls Try.prog 49 #[.agg (C24.map (Value.int .u32)).toArray, .agg (C23.map (Value.int .u32)).toArray, .agg (C1.map (Value.int .u32)).toArray] W fun e w' => e = .returned (.agg (C29.map (Value.int .u32)).toArray) ∧ Keeps W w') (h30 : ∀ W, Keeps w W → Calls Try.prog 49 #[.agg (C25.map (Value.int .u32)).toArray, .agg (C21.map (Value.int .u32)).toArray, .agg (C1.map (Value.int .u32)).toArray] W fun e w' => e = .returned (.agg (C30.map (Value.int .u32)).toArray) ∧ Keeps W w') (h31 : ∀ W, Keeps w W → Calls Try.prog 56 #[.agg (C29.map (Value.int .u32)).toArray, .agg (C30.map (Value.int .u32)).toArray, .agg (C1.map (Value.int .u32)).toArray] W fun e w' => e = .returned (.agg (C31.map (Value.int .u32)).toArray) ∧ Keeps W w') (h32 : ∀ W, Keeps w W → Calls Try.prog 49 #[.agg (C23.map (Value.int .u32)).toArray, .agg (C14.map (Value.int .u32)).toArray, .agg (C1.map (Value.int .u32)).toArray] W fun e w' => e = .returned (.agg (C32.map (Value.int .u32)).toArray) ∧ Keeps W w') (h33 : ∀ W, Keeps w W → Calls Try.prog 49 #[.agg (C21.map (Value.int .u32)).toArray, .agg (C9.map (Value.int .u32)).toArray, .agg (C1.map (Value.int .u32)).toArray] W fun e w' => e = .returned (.agg (C33.map (Value.int .u32)).toArray) ∧ Keeps W w') (h34 : ∀ W, Keeps w W → Calls Try.prog 56 #[.agg (C32.map (Value.int .u32)).toArray, .agg (C33.map (Value.int .u32)).toArray, .agg (C1.map (Value.int .u32)).toArray] W fun e w' => e = .returned (.agg (C34.map (Value.int .u32)).toArray) ∧ Keeps W w') :
    Calls Try.prog 48 #[.agg (PT.map (Value.int .u32)).toArray, .agg (PU.map (Value.int .u32)).toArray] w fun e w' => e = .returned (.agg (RT.map (Value.int .u32)).toArray) ∧ Keeps w w' := by
  have HC1 := Lib.hid h1; clear h1
  have HC2 := Lib.hid h2; clear h2
  have HC3 := Lib.hid h3; clear h3
  have HC4 := Lib.hid h4; clear h4
  have HC5 := Lib.hid h5; clear h5
  have HC6 := Lib.hid h6; clear h6
  have HC7 := Lib.hid h7; clear h7
  have HC8 := Lib.hid h8; clear h8
  have HC9 := Lib.hid h9; clear h9
  have HC10 := Lib.hid h10; clear h10
  have HC11 := Lib.hid h11; clear h11
  have HC12 := Lib.hid h12; clear h12
  have HC13 := Lib.hid h13; clear h13
  have HC14 := Lib.hid h14; clear h14
  have HC15 := Lib.hid h15; clear h15
  have HC16 := Lib.hid h16; clear h16
  have HC17 := Lib.hid h17; clear h17
  have HC18 := Lib.hid h18; clear h18
  have HC19 := Lib.hid h19; clear h19
  have HC20 := Lib.hid h20; clear h20
  have HC21 := Lib.hid h21; clear h21
  have HC22 := Lib.hid h22; clear h22
  have HC23 := Lib.hid h23; clear h23
  have HC24 := Lib.hid h24; clear h24
  have HC25 := Lib.hid h25; clear h25
  have HC26 := Lib.hid h26; clear h26
  have HC27 := Lib.hid h27; clear h27
  have HC28 := Lib.hid h28; clear h28
  have HC29 := Lib.hid h29; clear h29
  have HC30 := Lib.hid h30; clear h30
  have HC31 := Lib.hid h31; clear h31
  have HC32 := Lib.hid h32; clear h32
  have HC33 := Lib.hid h33; clear h33
  have HC34 := Lib.hid h34; clear h34
  have HK21 := Lib.hid hK21; clear hK21
  have lPT : PT.length = 24 := by rw [hPT]; exact len3 lX lY lZ
  have lPU : PU.length = 24 := by rw [hPU]; exact len3 lU lV lT
  have lRT : RT.length = 24 := by rw [hRT]; exact len3 lC28 lC31 lC34
  have hBP := built_rpt lC28 lC31 lC34
  rw [← hRT] at hBP
  have HBP := Lib.hid hBP
  have HPT := Lib.hid hPT
  have HPU := Lib.hid hPU
  clear hBP hPT hPU hRT
  go_enter Try.func48, Try.ntmps48
  go_upto_region 1 with (fail)
  refine wp_rows3 (fun W hk hra hrb hrc hs => ?_)
  obtain ⟨p, hp⟩ : ∃ p, p = w.heap.size := ⟨_, rfl⟩
  rw [← hp] at hra hrb hrc hs ⊢
  have hkp : w.heap.size ≤ p := by omega
  obtain ⟨Zr, hZr, hrz⟩ : ∃ Zr : List Value, Zr.length = 8 + 8 + 8 ∧ Row W (p + 1 + 1) 0 Zr := ⟨_, rfl, hrc⟩
  have HRA := Lib.hid (show Row W p 0 (PT.map (Value.int .u32)) from hra)
  have HRB := Lib.hid (show Row W (p + 1) 0 (PU.map (Value.int .u32)) from hrb)
  have HKW := Lib.hid hk; have HRres := Lib.hid hrz
  clear hp hra hrb hrc hrz hk hs
  have HRX := Lib.hid (row3 lX lY lZ (by have h := HRA.out; rwa [HPT.out] at h)).1
  have HRY := Lib.hid (row3 lX lY lZ (by have h := HRA.out; rwa [HPT.out] at h)).2.1
  have HRZ := Lib.hid (row3 lX lY lZ (by have h := HRA.out; rwa [HPT.out] at h)).2.2
  have HRU := Lib.hid (row3 lU lV lT (by have h := HRB.out; rwa [HPU.out] at h)).1
  have HRV := Lib.hid (row3 lU lV lT (by have h := HRB.out; rwa [HPU.out] at h)).2.1
  have HRT := Lib.hid (row3 lU lV lT (by have h := HRB.out; rwa [HPU.out] at h)).2.2
  go_upto_region 2 with (first | (go_at_call 38; refine (HC1.out _ HKW.out).mono ?_; rintro e V1 ⟨rfl, hk1⟩; have HV1 := Lib.hid hk1; clear hk1) | (refine wpList_store_row rfl 37 (.tmp 5) (.tmp 15) rfl V1.heap.size 0 rfl zeros8 (C1.map (Value.int .u32)) rfl (Row.new _ _ _ rfl) (by rw [List.length_map, lC1]; rfl) (by rw [List.length_map, lC1]; exact sz_rnum) (int_oneCell _) ?_; intro W2 hr2 hc2; have HN := Lib.hid hr2; have HB := Lib.hid (show _ ≤ _ from (HV1.out).size); have HK2 := Lib.hid (nm_keeps_chg (nm_keeps_alloc (HV1.out) _) hc2 (HV1.out).size); clear hr2 hc2))
  generalize V1.heap.size = g1 at *
  have hlt_res_g1 := Nat.lt_of_lt_of_le (HRres.out.lt (by intro e; rw [e] at hZr; cases hZr)) HB.out
  have HRA := Lib.hid (HRA.out.keeps HK2.out)
  have HRX := Lib.hid (HRX.out.keeps HK2.out)
  have HRY := Lib.hid (HRY.out.keeps HK2.out)
  have HRZ := Lib.hid (HRZ.out.keeps HK2.out)
  have HRB := Lib.hid (HRB.out.keeps HK2.out)
  have HRU := Lib.hid (HRU.out.keeps HK2.out)
  have HRV := Lib.hid (HRV.out.keeps HK2.out)
  have HRT := Lib.hid (HRT.out.keeps HK2.out)
  have HRres := Lib.hid (HRres.out.keeps HK2.out)
  have HKW := Lib.hid (HKW.out.trans HK2.out)
  have HRM := HN
  have HS0 := Lib.hid (Keeps.refl W2)
  have hlt_M_g2 := HRM.out.lt (map_ne lC1)
  go_upto_region 3 with (first | (refine cu_build (by kernel_rfl) 37 _ rfl _ ?_ _ HK21.out ?_; focus (simp only [List.map_toArray, List.map_cons, List.map_nil]; rfl)) | (refine wpList_store_row rfl 37 (.tmp 6) (.tmp 16) rfl W2.heap.size 0 rfl zeros8 (K21.map (Value.int .u32)) rfl (Row.new _ _ _ rfl) (by rw [List.length_map, lK21]; rfl) (by rw [List.length_map, lK21]; exact sz_rnum) (int_oneCell _) ?_; intro W3 hr2 hc2; have HN := Lib.hid hr2; have HB := Lib.hid (show _ ≤ _ from (HS0.out).size); have HK2 := Lib.hid (nm_keeps_chg (nm_keeps_alloc (HS0.out) _) hc2 (HS0.out).size); clear hr2 hc2))
  generalize W2.heap.size = g2 at *
  have HRA := Lib.hid (HRA.out.keeps HK2.out)
  have HRX := Lib.hid (HRX.out.keeps HK2.out)
  have HRY := Lib.hid (HRY.out.keeps HK2.out)
  have HRZ := Lib.hid (HRZ.out.keeps HK2.out)
  have HRB := Lib.hid (HRB.out.keeps HK2.out)
  have HRU := Lib.hid (HRU.out.keeps HK2.out)
  have HRV := Lib.hid (HRV.out.keeps HK2.out)
  have HRT := Lib.hid (HRT.out.keeps HK2.out)
  have HRres := Lib.hid (HRres.out.keeps HK2.out)
  have HRM := Lib.hid (HRM.out.keeps HK2.out)
  have HKW := Lib.hid (HKW.out.trans HK2.out)
  have HRK21 := HN
  go_upto_region 4 with (first | (refine wpList_load_at rfl 37 (.tmp 17) rfl _ 0 rfl (X.map (Value.int .u32)) _ HRX.out Try.underlying37 rfl (by rw [List.length_map, lX]; exact sz_rnum) ?_) | (refine wpList_load_at rfl 37 (.tmp 19) rfl _ 0 rfl (U.map (Value.int .u32)) _ HRU.out Try.underlying37 rfl (by rw [List.length_map, lU]; exact sz_rnum) ?_) | (refine wpList_load_at rfl 37 (.tmp 5) rfl _ 0 rfl (C1.map (Value.int .u32)) _ HRM.out Try.underlying37 rfl (by rw [List.length_map, lC1]; exact sz_rnum) ?_) | (go_at_call 49; refine (HC2.out _ HKW.out).mono ?_; rintro e V1 ⟨rfl, hk1⟩; have HV1 := Lib.hid hk1; clear hk1) | (refine wpList_store_row rfl 37 (.tmp 7) (.tmp 22) rfl V1.heap.size 0 rfl zeros8 (C2.map (Value.int .u32)) rfl (Row.new _ _ _ rfl) (by rw [List.length_map, lC2]; rfl) (by rw [List.length_map, lC2]; exact sz_rnum) (int_oneCell _) ?_; intro W2 hr2 hc2; have HN := Lib.hid hr2; have HB := Lib.hid (show _ ≤ _ from (HV1.out).size); have HK2 := Lib.hid (nm_keeps_chg (nm_keeps_alloc (HV1.out) _) hc2 (HV1.out).size); clear hr2 hc2))
  generalize V1.heap.size = g3 at *
  have hlt_K21_g3 := Nat.lt_of_lt_of_le (HRK21.out.lt (map_ne lK21)) HB.out
  have HRA := Lib.hid (HRA.out.keeps HK2.out)
  have HRX := Lib.hid (HRX.out.keeps HK2.out)
  have HRY := Lib.hid (HRY.out.keeps HK2.out)
  have HRZ := Lib.hid (HRZ.out.keeps HK2.out)
  have HRB := Lib.hid (HRB.out.keeps HK2.out)
  have HRU := Lib.hid (HRU.out.keeps HK2.out)
  have HRV := Lib.hid (HRV.out.keeps HK2.out)
  have HRT := Lib.hid (HRT.out.keeps HK2.out)
  have HRres := Lib.hid (HRres.out.keeps HK2.out)
  have HRM := Lib.hid (HRM.out.keeps HK2.out)
  have HRK21 := Lib.hid (HRK21.out.keeps HK2.out)
  have HKW := Lib.hid (HKW.out.trans HK2.out)
  have HRt0 := HN
  go_upto_region 5 with (first | (refine wpList_load_at rfl 37 (.tmp 23) rfl _ 8 rfl (Y.map (Value.int .u32)) _ HRY.out Try.underlying37 rfl (by rw [List.length_map, lY]; exact sz_rnum) ?_) | (refine wpList_load_at rfl 37 (.tmp 25) rfl _ 8 rfl (V.map (Value.int .u32)) _ HRV.out Try.underlying37 rfl (by rw [List.length_map, lV]; exact sz_rnum) ?_) | (refine wpList_load_at rfl 37 (.tmp 5) rfl _ 0 rfl (C1.map (Value.int .u32)) _ HRM.out Try.underlying37 rfl (by rw [List.length_map, lC1]; exact sz_rnum) ?_) | (go_at_call 49; refine (HC3.out _ HKW.out).mono ?_; rintro e V1 ⟨rfl, hk1⟩; have HV1 := Lib.hid hk1; clear hk1) | (refine wpList_store_row rfl 37 (.tmp 8) (.tmp 28) rfl V1.heap.size 0 rfl zeros8 (C3.map (Value.int .u32)) rfl (Row.new _ _ _ rfl) (by rw [List.length_map, lC3]; rfl) (by rw [List.length_map, lC3]; exact sz_rnum) (int_oneCell _) ?_; intro W2 hr2 hc2; have HN := Lib.hid hr2; have HB := Lib.hid (show _ ≤ _ from (HV1.out).size); have HK2 := Lib.hid (nm_keeps_chg (nm_keeps_alloc (HV1.out) _) hc2 (HV1.out).size); clear hr2 hc2))
  generalize V1.heap.size = g4 at *
  have hlt_t0_g4 := Nat.lt_of_lt_of_le (HRt0.out.lt (map_ne lC2)) HB.out
  have HRA := Lib.hid (HRA.out.keeps HK2.out)
  have HRX := Lib.hid (HRX.out.keeps HK2.out)
  have HRY := Lib.hid (HRY.out.keeps HK2.out)
  have HRZ := Lib.hid (HRZ.out.keeps HK2.out)
  have HRB := Lib.hid (HRB.out.keeps HK2.out)
  have HRU := Lib.hid (HRU.out.keeps HK2.out)
  have HRV := Lib.hid (HRV.out.keeps HK2.out)
  have HRT := Lib.hid (HRT.out.keeps HK2.out)
  have HRres := Lib.hid (HRres.out.keeps HK2.out)
  have HRM := Lib.hid (HRM.out.keeps HK2.out)
  have HRK21 := Lib.hid (HRK21.out.keeps HK2.out)
  have HRt0 := Lib.hid (HRt0.out.keeps HK2.out)
  have HKW := Lib.hid (HKW.out.trans HK2.out)
  have HRt1 := HN
  go_upto_region 6 with (first | (refine wpList_load_at rfl 37 (.tmp 29) rfl _ 16 rfl (Z.map (Value.int .u32)) _ HRZ.out Try.underlying37 rfl (by rw [List.length_map, lZ]; exact sz_rnum) ?_) | (refine wpList_load_at rfl 37 (.tmp 31) rfl _ 16 rfl (T.map (Value.int .u32)) _ HRT.out Try.underlying37 rfl (by rw [List.length_map, lT]; exact sz_rnum) ?_) | (refine wpList_load_at rfl 37 (.tmp 5) rfl _ 0 rfl (C1.map (Value.int .u32)) _ HRM.out Try.underlying37 rfl (by rw [List.length_map, lC1]; exact sz_rnum) ?_) | (go_at_call 49; refine (HC4.out _ HKW.out).mono ?_; rintro e V1 ⟨rfl, hk1⟩; have HV1 := Lib.hid hk1; clear hk1) | (refine wpList_store_row rfl 37 (.tmp 9) (.tmp 34) rfl V1.heap.size 0 rfl zeros8 (C4.map (Value.int .u32)) rfl (Row.new _ _ _ rfl) (by rw [List.length_map, lC4]; rfl) (by rw [List.length_map, lC4]; exact sz_rnum) (int_oneCell _) ?_; intro W2 hr2 hc2; have HN := Lib.hid hr2; have HB := Lib.hid (show _ ≤ _ from (HV1.out).size); have HK2 := Lib.hid (nm_keeps_chg (nm_keeps_alloc (HV1.out) _) hc2 (HV1.out).size); clear hr2 hc2))
  generalize V1.heap.size = g5 at *
  have hlt_t1_g5 := Nat.lt_of_lt_of_le (HRt1.out.lt (map_ne lC3)) HB.out
  have HRA := Lib.hid (HRA.out.keeps HK2.out)
  have HRX := Lib.hid (HRX.out.keeps HK2.out)
  have HRY := Lib.hid (HRY.out.keeps HK2.out)
  have HRZ := Lib.hid (HRZ.out.keeps HK2.out)
  have HRB := Lib.hid (HRB.out.keeps HK2.out)
  have HRU := Lib.hid (HRU.out.keeps HK2.out)
  have HRV := Lib.hid (HRV.out.keeps HK2.out)
  have HRT := Lib.hid (HRT.out.keeps HK2.out)
  have HRres := Lib.hid (HRres.out.keeps HK2.out)
  have HRM := Lib.hid (HRM.out.keeps HK2.out)
  have HRK21 := Lib.hid (HRK21.out.keeps HK2.out)
  have HRt0 := Lib.hid (HRt0.out.keeps HK2.out)
  have HRt1 := Lib.hid (HRt1.out.keeps HK2.out)
  have HKW := Lib.hid (HKW.out.trans HK2.out)
  have HRt2 := HN
  refine wp_region_keep 21 [20] [0, 1, 2, 3, 4, 5, 6, 7, 8, 9, 10, 11, 12, 13, 14, 15, 16, 17, 18, 19] (fun _ => zeros8) (by kernel_rfl) (by kernel_rfl) (by intro i hi; simp only [List.mem_cons, List.not_mem_nil, or_false] at hi; (first | (rcases hi with rfl | rfl) | subst hi) <;> exact ⟨_, rfl, alloc_rnum rfl rfl⟩) ?_
  refine keep_pure (o := ?_) (v := ?_) ?_ ?_ ?_ ?_
  rotate_left 2
  focus (simp only [kG]; exact rfl)
  focus rfl
  focus ((intro wS hS; go_simp) <;> with_reducible rfl)
  try simp only [kP]
  refine keep_pure (o := ?_) (v := ?_) ?_ ?_ ?_ ?_
  rotate_left 2
  focus (simp only [kG]; exact rfl)
  focus rfl
  focus (intro wS hS; (refine cu_run_load 37 (.tmp 35) ?_ p 0 ?_ (X.map (Value.int .u32)) _ (HRX.out.keeps hS) Try.underlying37 rfl (by rw [List.length_map, lX]; exact sz_rnum)) <;> rfl)
  try simp only [kP]
  refine keep_pure (o := ?_) (v := ?_) ?_ ?_ ?_ ?_
  rotate_left 2
  focus (simp only [kG]; exact rfl)
  focus rfl
  focus ((intro wS hS; go_simp) <;> with_reducible rfl)
  try simp only [kP]
  refine keep_pure (o := ?_) (v := ?_) ?_ ?_ ?_ ?_
  rotate_left 2
  focus (simp only [kG]; exact rfl)
  focus rfl
  focus (intro wS hS; (refine cu_run_load 37 (.tmp 37) ?_ p 8 ?_ (Y.map (Value.int .u32)) _ (HRY.out.keeps hS) Try.underlying37 rfl (by rw [List.length_map, lY]; exact sz_rnum)) <;> rfl)
  try simp only [kP]
  refine keep_pure (o := ?_) (v := ?_) ?_ ?_ ?_ ?_
  rotate_left 2
  focus (simp only [kG]; exact rfl)
  focus rfl
  focus (intro wS hS; (refine cu_run_load 37 (.tmp 5) ?_ g1 0 ?_ (C1.map (Value.int .u32)) _ (HRM.out.keeps hS) Try.underlying37 rfl (by rw [List.length_map, lC1]; exact sz_rnum)) <;> rfl)
  try simp only [kP]
  refine keep_call (o := ?_) (f := ?_) (args := ?_) (v := ?_) ?_ ?_ ?_ ?_ ?_
  rotate_left 4
  focus (simp only [kG]; exact rfl)
  focus rfl
  focus (intro wS; go_simp; refine ⟨?_, ?_⟩ <;> with_reducible rfl)
  focus (intro wS hS; exact HC5.out wS (HKW.out.trans hS))
  try simp only [kP]
  refine keep_pure (o := ?_) (v := ?_) ?_ ?_ ?_ ?_
  rotate_left 2
  focus (simp only [kG]; exact rfl)
  focus rfl
  focus ((intro wS hS; go_simp) <;> with_reducible rfl)
  try simp only [kP]
  refine keep_pure (o := ?_) (v := ?_) ?_ ?_ ?_ ?_
  rotate_left 2
  focus (simp only [kG]; exact rfl)
  focus rfl
  focus (intro wS hS; (refine cu_run_load 37 (.tmp 41) ?_ (p + 1) 0 ?_ (U.map (Value.int .u32)) _ (HRU.out.keeps hS) Try.underlying37 rfl (by rw [List.length_map, lU]; exact sz_rnum)) <;> rfl)
  try simp only [kP]
  refine keep_pure (o := ?_) (v := ?_) ?_ ?_ ?_ ?_
  rotate_left 2
  focus (simp only [kG]; exact rfl)
  focus rfl
  focus ((intro wS hS; go_simp) <;> with_reducible rfl)
  try simp only [kP]
  refine keep_pure (o := ?_) (v := ?_) ?_ ?_ ?_ ?_
  rotate_left 2
  focus (simp only [kG]; exact rfl)
  focus rfl
  focus (intro wS hS; (refine cu_run_load 37 (.tmp 43) ?_ (p + 1) 8 ?_ (V.map (Value.int .u32)) _ (HRV.out.keeps hS) Try.underlying37 rfl (by rw [List.length_map, lV]; exact sz_rnum)) <;> rfl)
  try simp only [kP]
  refine keep_pure (o := ?_) (v := ?_) ?_ ?_ ?_ ?_
  rotate_left 2
  focus (simp only [kG]; exact rfl)
  focus rfl
  focus (intro wS hS; (refine cu_run_load 37 (.tmp 5) ?_ g1 0 ?_ (C1.map (Value.int .u32)) _ (HRM.out.keeps hS) Try.underlying37 rfl (by rw [List.length_map, lC1]; exact sz_rnum)) <;> rfl)
  try simp only [kP]
  refine keep_call (o := ?_) (f := ?_) (args := ?_) (v := ?_) ?_ ?_ ?_ ?_ ?_
  rotate_left 4
  focus (simp only [kG]; exact rfl)
  focus rfl
  focus (intro wS; go_simp; refine ⟨?_, ?_⟩ <;> with_reducible rfl)
  focus (intro wS hS; exact HC6.out wS (HKW.out.trans hS))
  try simp only [kP]
  refine keep_pure (o := ?_) (v := ?_) ?_ ?_ ?_ ?_
  rotate_left 2
  focus (simp only [kG]; exact rfl)
  focus rfl
  focus (intro wS hS; (refine cu_run_load 37 (.tmp 5) ?_ g1 0 ?_ (C1.map (Value.int .u32)) _ (HRM.out.keeps hS) Try.underlying37 rfl (by rw [List.length_map, lC1]; exact sz_rnum)) <;> rfl)
  try simp only [kP]
  refine keep_call (o := ?_) (f := ?_) (args := ?_) (v := ?_) ?_ ?_ ?_ ?_ ?_
  rotate_left 4
  focus (simp only [kG]; exact rfl)
  focus rfl
  focus (intro wS; go_simp; refine ⟨?_, ?_⟩ <;> with_reducible rfl)
  focus (intro wS hS; exact HC7.out wS (HKW.out.trans hS))
  try simp only [kP]
  refine keep_pure (o := ?_) (v := ?_) ?_ ?_ ?_ ?_
  rotate_left 2
  focus (simp only [kG]; exact rfl)
  focus rfl
  focus (intro wS hS; (refine cu_run_load 37 (.tmp 7) ?_ g3 0 ?_ (C2.map (Value.int .u32)) _ (HRt0.out.keeps hS) Try.underlying37 rfl (by rw [List.length_map, lC2]; exact sz_rnum)) <;> rfl)
  try simp only [kP]
  refine keep_pure (o := ?_) (v := ?_) ?_ ?_ ?_ ?_
  rotate_left 2
  focus (simp only [kG]; exact rfl)
  focus rfl
  focus (intro wS hS; (refine cu_run_load 37 (.tmp 8) ?_ g4 0 ?_ (C3.map (Value.int .u32)) _ (HRt1.out.keeps hS) Try.underlying37 rfl (by rw [List.length_map, lC3]; exact sz_rnum)) <;> rfl)
  try simp only [kP]
  refine keep_pure (o := ?_) (v := ?_) ?_ ?_ ?_ ?_
  rotate_left 2
  focus (simp only [kG]; exact rfl)
  focus rfl
  focus (intro wS hS; (refine cu_run_load 37 (.tmp 5) ?_ g1 0 ?_ (C1.map (Value.int .u32)) _ (HRM.out.keeps hS) Try.underlying37 rfl (by rw [List.length_map, lC1]; exact sz_rnum)) <;> rfl)
  try simp only [kP]
  refine keep_call (o := ?_) (f := ?_) (args := ?_) (v := ?_) ?_ ?_ ?_ ?_ ?_
  rotate_left 4
  focus (simp only [kG]; exact rfl)
  focus rfl
  focus (intro wS; go_simp; refine ⟨?_, ?_⟩ <;> with_reducible rfl)
  focus (intro wS hS; exact HC8.out wS (HKW.out.trans hS))
  try simp only [kP]
  refine keep_pure (o := ?_) (v := ?_) ?_ ?_ ?_ ?_
  rotate_left 2
  focus (simp only [kG]; exact rfl)
  focus rfl
  focus (intro wS hS; (refine cu_run_load 37 (.tmp 5) ?_ g1 0 ?_ (C1.map (Value.int .u32)) _ (HRM.out.keeps hS) Try.underlying37 rfl (by rw [List.length_map, lC1]; exact sz_rnum)) <;> rfl)
  try simp only [kP]
  refine keep_call (o := ?_) (f := ?_) (args := ?_) (v := ?_) ?_ ?_ ?_ ?_ ?_
  rotate_left 4
  focus (simp only [kG]; exact rfl)
  focus rfl
  focus (intro wS; go_simp; refine ⟨?_, ?_⟩ <;> with_reducible rfl)
  focus (intro wS hS; exact HC9.out wS (HKW.out.trans hS))
  try simp only [kP]
  refine keep_nil ?_
  intro GG V1 hk1 hG
  obtain ⟨ha20, hz20, hd20⟩ := hG 20 (by simp)
  clear hd20
  simp only [putsA, dstAt, Act.put, ptrV, List.drop_succ_cons, List.drop_zero, List.getElem?_toArray, List.getElem?_cons_succ, List.getElem?_cons_zero, Option.bind_some, List.setIfInBounds_toArray, List.set_cons_zero, List.set_cons_succ]
  generalize GG 20 = g6 at *
  clear hG
  have HZ20 := Lib.hid hz20; have HB20 := Lib.hid (show _ ≤ _ from ha20)
  clear hz20 ha20
  have HV1 := Lib.hid hk1; clear hk1
  go_upto_region 7 with (first | (refine wpList_store_row rfl 37 (.tmp 10) (.tmp 54) rfl _ 0 rfl zeros8 (C9.map (Value.int .u32)) rfl HZ20.out (by rw [List.length_map, lC9]; rfl) (by rw [List.length_map, lC9]; exact sz_rnum) (int_oneCell _) ?_; intro W2 hr2 hc2; have HN1 := Lib.hid hr2; have HC1 := Lib.hid hc2; clear hr2 hc2))
  have HN := HN1; have HB := HB20
  have HK2 := Lib.hid (nm_keeps_chg HV1.out HC1.out HB.out)
  have hlt_t2_g6 := Nat.lt_of_lt_of_le (HRt2.out.lt (map_ne lC4)) HB.out
  have HRA := Lib.hid (HRA.out.keeps HK2.out)
  have HRX := Lib.hid (HRX.out.keeps HK2.out)
  have HRY := Lib.hid (HRY.out.keeps HK2.out)
  have HRZ := Lib.hid (HRZ.out.keeps HK2.out)
  have HRB := Lib.hid (HRB.out.keeps HK2.out)
  have HRU := Lib.hid (HRU.out.keeps HK2.out)
  have HRV := Lib.hid (HRV.out.keeps HK2.out)
  have HRT := Lib.hid (HRT.out.keeps HK2.out)
  have HRres := Lib.hid (HRres.out.keeps HK2.out)
  have HRM := Lib.hid (HRM.out.keeps HK2.out)
  have HRK21 := Lib.hid (HRK21.out.keeps HK2.out)
  have HRt0 := Lib.hid (HRt0.out.keeps HK2.out)
  have HRt1 := Lib.hid (HRt1.out.keeps HK2.out)
  have HRt2 := Lib.hid (HRt2.out.keeps HK2.out)
  have HKW := Lib.hid (HKW.out.trans HK2.out)
  have HRt3 := HN
  refine wp_region_keep 21 [20] [0, 1, 2, 3, 4, 5, 6, 7, 8, 9, 10, 11, 12, 13, 14, 15, 16, 17, 18, 19] (fun _ => zeros8) (by kernel_rfl) (by kernel_rfl) (by intro i hi; simp only [List.mem_cons, List.not_mem_nil, or_false] at hi; (first | (rcases hi with rfl | rfl) | subst hi) <;> exact ⟨_, rfl, alloc_rnum rfl rfl⟩) ?_
  refine keep_pure (o := ?_) (v := ?_) ?_ ?_ ?_ ?_
  rotate_left 2
  focus (simp only [kG]; exact rfl)
  focus rfl
  focus ((intro wS hS; go_simp) <;> with_reducible rfl)
  try simp only [kP]
  refine keep_pure (o := ?_) (v := ?_) ?_ ?_ ?_ ?_
  rotate_left 2
  focus (simp only [kG]; exact rfl)
  focus rfl
  focus (intro wS hS; (refine cu_run_load 37 (.tmp 55) ?_ p 8 ?_ (Y.map (Value.int .u32)) _ (HRY.out.keeps hS) Try.underlying37 rfl (by rw [List.length_map, lY]; exact sz_rnum)) <;> rfl)
  try simp only [kP]
  refine keep_pure (o := ?_) (v := ?_) ?_ ?_ ?_ ?_
  rotate_left 2
  focus (simp only [kG]; exact rfl)
  focus rfl
  focus ((intro wS hS; go_simp) <;> with_reducible rfl)
  try simp only [kP]
  refine keep_pure (o := ?_) (v := ?_) ?_ ?_ ?_ ?_
  rotate_left 2
  focus (simp only [kG]; exact rfl)
  focus rfl
  focus (intro wS hS; (refine cu_run_load 37 (.tmp 57) ?_ p 16 ?_ (Z.map (Value.int .u32)) _ (HRZ.out.keeps hS) Try.underlying37 rfl (by rw [List.length_map, lZ]; exact sz_rnum)) <;> rfl)
  try simp only [kP]
  refine keep_pure (o := ?_) (v := ?_) ?_ ?_ ?_ ?_
  rotate_left 2
  focus (simp only [kG]; exact rfl)
  focus rfl
  focus (intro wS hS; (refine cu_run_load 37 (.tmp 5) ?_ g1 0 ?_ (C1.map (Value.int .u32)) _ (HRM.out.keeps hS) Try.underlying37 rfl (by rw [List.length_map, lC1]; exact sz_rnum)) <;> rfl)
  try simp only [kP]
  refine keep_call (o := ?_) (f := ?_) (args := ?_) (v := ?_) ?_ ?_ ?_ ?_ ?_
  rotate_left 4
  focus (simp only [kG]; exact rfl)
  focus rfl
  focus (intro wS; go_simp; refine ⟨?_, ?_⟩ <;> with_reducible rfl)
  focus (intro wS hS; exact HC10.out wS (HKW.out.trans hS))
  try simp only [kP]
  refine keep_pure (o := ?_) (v := ?_) ?_ ?_ ?_ ?_
  rotate_left 2
  focus (simp only [kG]; exact rfl)
  focus rfl
  focus ((intro wS hS; go_simp) <;> with_reducible rfl)
  try simp only [kP]
  refine keep_pure (o := ?_) (v := ?_) ?_ ?_ ?_ ?_
  rotate_left 2
  focus (simp only [kG]; exact rfl)
  focus rfl
  focus (intro wS hS; (refine cu_run_load 37 (.tmp 61) ?_ (p + 1) 8 ?_ (V.map (Value.int .u32)) _ (HRV.out.keeps hS) Try.underlying37 rfl (by rw [List.length_map, lV]; exact sz_rnum)) <;> rfl)
  try simp only [kP]
  refine keep_pure (o := ?_) (v := ?_) ?_ ?_ ?_ ?_
  rotate_left 2
  focus (simp only [kG]; exact rfl)
  focus rfl
  focus ((intro wS hS; go_simp) <;> with_reducible rfl)
  try simp only [kP]
  refine keep_pure (o := ?_) (v := ?_) ?_ ?_ ?_ ?_
  rotate_left 2
  focus (simp only [kG]; exact rfl)
  focus rfl
  focus (intro wS hS; (refine cu_run_load 37 (.tmp 63) ?_ (p + 1) 16 ?_ (T.map (Value.int .u32)) _ (HRT.out.keeps hS) Try.underlying37 rfl (by rw [List.length_map, lT]; exact sz_rnum)) <;> rfl)
  try simp only [kP]
  refine keep_pure (o := ?_) (v := ?_) ?_ ?_ ?_ ?_
  rotate_left 2
  focus (simp only [kG]; exact rfl)
  focus rfl
  focus (intro wS hS; (refine cu_run_load 37 (.tmp 5) ?_ g1 0 ?_ (C1.map (Value.int .u32)) _ (HRM.out.keeps hS) Try.underlying37 rfl (by rw [List.length_map, lC1]; exact sz_rnum)) <;> rfl)
  try simp only [kP]
  refine keep_call (o := ?_) (f := ?_) (args := ?_) (v := ?_) ?_ ?_ ?_ ?_ ?_
  rotate_left 4
  focus (simp only [kG]; exact rfl)
  focus rfl
  focus (intro wS; go_simp; refine ⟨?_, ?_⟩ <;> with_reducible rfl)
  focus (intro wS hS; exact HC11.out wS (HKW.out.trans hS))
  try simp only [kP]
  refine keep_pure (o := ?_) (v := ?_) ?_ ?_ ?_ ?_
  rotate_left 2
  focus (simp only [kG]; exact rfl)
  focus rfl
  focus (intro wS hS; (refine cu_run_load 37 (.tmp 5) ?_ g1 0 ?_ (C1.map (Value.int .u32)) _ (HRM.out.keeps hS) Try.underlying37 rfl (by rw [List.length_map, lC1]; exact sz_rnum)) <;> rfl)
  try simp only [kP]
  refine keep_call (o := ?_) (f := ?_) (args := ?_) (v := ?_) ?_ ?_ ?_ ?_ ?_
  rotate_left 4
  focus (simp only [kG]; exact rfl)
  focus rfl
  focus (intro wS; go_simp; refine ⟨?_, ?_⟩ <;> with_reducible rfl)
  focus (intro wS hS; exact HC12.out wS (HKW.out.trans hS))
  try simp only [kP]
  refine keep_pure (o := ?_) (v := ?_) ?_ ?_ ?_ ?_
  rotate_left 2
  focus (simp only [kG]; exact rfl)
  focus rfl
  focus (intro wS hS; (refine cu_run_load 37 (.tmp 8) ?_ g4 0 ?_ (C3.map (Value.int .u32)) _ (HRt1.out.keeps hS) Try.underlying37 rfl (by rw [List.length_map, lC3]; exact sz_rnum)) <;> rfl)
  try simp only [kP]
  refine keep_pure (o := ?_) (v := ?_) ?_ ?_ ?_ ?_
  rotate_left 2
  focus (simp only [kG]; exact rfl)
  focus rfl
  focus (intro wS hS; (refine cu_run_load 37 (.tmp 9) ?_ g5 0 ?_ (C4.map (Value.int .u32)) _ (HRt2.out.keeps hS) Try.underlying37 rfl (by rw [List.length_map, lC4]; exact sz_rnum)) <;> rfl)
  try simp only [kP]
  refine keep_pure (o := ?_) (v := ?_) ?_ ?_ ?_ ?_
  rotate_left 2
  focus (simp only [kG]; exact rfl)
  focus rfl
  focus (intro wS hS; (refine cu_run_load 37 (.tmp 5) ?_ g1 0 ?_ (C1.map (Value.int .u32)) _ (HRM.out.keeps hS) Try.underlying37 rfl (by rw [List.length_map, lC1]; exact sz_rnum)) <;> rfl)
  try simp only [kP]
  refine keep_call (o := ?_) (f := ?_) (args := ?_) (v := ?_) ?_ ?_ ?_ ?_ ?_
  rotate_left 4
  focus (simp only [kG]; exact rfl)
  focus rfl
  focus (intro wS; go_simp; refine ⟨?_, ?_⟩ <;> with_reducible rfl)
  focus (intro wS hS; exact HC13.out wS (HKW.out.trans hS))
  try simp only [kP]
  refine keep_pure (o := ?_) (v := ?_) ?_ ?_ ?_ ?_
  rotate_left 2
  focus (simp only [kG]; exact rfl)
  focus rfl
  focus (intro wS hS; (refine cu_run_load 37 (.tmp 5) ?_ g1 0 ?_ (C1.map (Value.int .u32)) _ (HRM.out.keeps hS) Try.underlying37 rfl (by rw [List.length_map, lC1]; exact sz_rnum)) <;> rfl)
  try simp only [kP]
  refine keep_call (o := ?_) (f := ?_) (args := ?_) (v := ?_) ?_ ?_ ?_ ?_ ?_
  rotate_left 4
  focus (simp only [kG]; exact rfl)
  focus rfl
  focus (intro wS; go_simp; refine ⟨?_, ?_⟩ <;> with_reducible rfl)
  focus (intro wS hS; exact HC14.out wS (HKW.out.trans hS))
  try simp only [kP]
  refine keep_nil ?_
  intro GG V1 hk1 hG
  obtain ⟨ha20, hz20, hd20⟩ := hG 20 (by simp)
  clear hd20
  simp only [putsA, dstAt, Act.put, ptrV, List.drop_succ_cons, List.drop_zero, List.getElem?_toArray, List.getElem?_cons_succ, List.getElem?_cons_zero, Option.bind_some, List.setIfInBounds_toArray, List.set_cons_zero, List.set_cons_succ]
  generalize GG 20 = g7 at *
  clear hG
  have HZ20 := Lib.hid hz20; have HB20 := Lib.hid (show _ ≤ _ from ha20)
  clear hz20 ha20
  have HV1 := Lib.hid hk1; clear hk1
  go_upto_region 8 with (first | (refine wpList_store_row rfl 37 (.tmp 11) (.tmp 74) rfl _ 0 rfl zeros8 (C14.map (Value.int .u32)) rfl HZ20.out (by rw [List.length_map, lC14]; rfl) (by rw [List.length_map, lC14]; exact sz_rnum) (int_oneCell _) ?_; intro W2 hr2 hc2; have HN1 := Lib.hid hr2; have HC1 := Lib.hid hc2; clear hr2 hc2))
  have HN := HN1; have HB := HB20
  have HK2 := Lib.hid (nm_keeps_chg HV1.out HC1.out HB.out)
  have hlt_t3_g7 := Nat.lt_of_lt_of_le (HRt3.out.lt (map_ne lC9)) HB.out
  have HRA := Lib.hid (HRA.out.keeps HK2.out)
  have HRX := Lib.hid (HRX.out.keeps HK2.out)
  have HRY := Lib.hid (HRY.out.keeps HK2.out)
  have HRZ := Lib.hid (HRZ.out.keeps HK2.out)
  have HRB := Lib.hid (HRB.out.keeps HK2.out)
  have HRU := Lib.hid (HRU.out.keeps HK2.out)
  have HRV := Lib.hid (HRV.out.keeps HK2.out)
  have HRT := Lib.hid (HRT.out.keeps HK2.out)
  have HRres := Lib.hid (HRres.out.keeps HK2.out)
  have HRM := Lib.hid (HRM.out.keeps HK2.out)
  have HRK21 := Lib.hid (HRK21.out.keeps HK2.out)
  have HRt0 := Lib.hid (HRt0.out.keeps HK2.out)
  have HRt1 := Lib.hid (HRt1.out.keeps HK2.out)
  have HRt2 := Lib.hid (HRt2.out.keeps HK2.out)
  have HRt3 := Lib.hid (HRt3.out.keeps HK2.out)
  have HKW := Lib.hid (HKW.out.trans HK2.out)
  have HRt4 := HN
  refine wp_region_keep 21 [20] [0, 1, 2, 3, 4, 5, 6, 7, 8, 9, 10, 11, 12, 13, 14, 15, 16, 17, 18, 19] (fun _ => zeros8) (by kernel_rfl) (by kernel_rfl) (by intro i hi; simp only [List.mem_cons, List.not_mem_nil, or_false] at hi; (first | (rcases hi with rfl | rfl) | subst hi) <;> exact ⟨_, rfl, alloc_rnum rfl rfl⟩) ?_
  refine keep_pure (o := ?_) (v := ?_) ?_ ?_ ?_ ?_
  rotate_left 2
  focus (simp only [kG]; exact rfl)
  focus rfl
  focus ((intro wS hS; go_simp) <;> with_reducible rfl)
  try simp only [kP]
  refine keep_pure (o := ?_) (v := ?_) ?_ ?_ ?_ ?_
  rotate_left 2
  focus (simp only [kG]; exact rfl)
  focus rfl
  focus (intro wS hS; (refine cu_run_load 37 (.tmp 75) ?_ p 0 ?_ (X.map (Value.int .u32)) _ (HRX.out.keeps hS) Try.underlying37 rfl (by rw [List.length_map, lX]; exact sz_rnum)) <;> rfl)
  try simp only [kP]
  refine keep_pure (o := ?_) (v := ?_) ?_ ?_ ?_ ?_
  rotate_left 2
  focus (simp only [kG]; exact rfl)
  focus rfl
  focus ((intro wS hS; go_simp) <;> with_reducible rfl)
  try simp only [kP]
  refine keep_pure (o := ?_) (v := ?_) ?_ ?_ ?_ ?_
  rotate_left 2
  focus (simp only [kG]; exact rfl)
  focus rfl
  focus (intro wS hS; (refine cu_run_load 37 (.tmp 77) ?_ p 16 ?_ (Z.map (Value.int .u32)) _ (HRZ.out.keeps hS) Try.underlying37 rfl (by rw [List.length_map, lZ]; exact sz_rnum)) <;> rfl)
  try simp only [kP]
  refine keep_pure (o := ?_) (v := ?_) ?_ ?_ ?_ ?_
  rotate_left 2
  focus (simp only [kG]; exact rfl)
  focus rfl
  focus (intro wS hS; (refine cu_run_load 37 (.tmp 5) ?_ g1 0 ?_ (C1.map (Value.int .u32)) _ (HRM.out.keeps hS) Try.underlying37 rfl (by rw [List.length_map, lC1]; exact sz_rnum)) <;> rfl)
  try simp only [kP]
  refine keep_call (o := ?_) (f := ?_) (args := ?_) (v := ?_) ?_ ?_ ?_ ?_ ?_
  rotate_left 4
  focus (simp only [kG]; exact rfl)
  focus rfl
  focus (intro wS; go_simp; refine ⟨?_, ?_⟩ <;> with_reducible rfl)
  focus (intro wS hS; exact HC15.out wS (HKW.out.trans hS))
  try simp only [kP]
  refine keep_pure (o := ?_) (v := ?_) ?_ ?_ ?_ ?_
  rotate_left 2
  focus (simp only [kG]; exact rfl)
  focus rfl
  focus ((intro wS hS; go_simp) <;> with_reducible rfl)
  try simp only [kP]
  refine keep_pure (o := ?_) (v := ?_) ?_ ?_ ?_ ?_
  rotate_left 2
  focus (simp only [kG]; exact rfl)
  focus rfl
  focus (intro wS hS; (refine cu_run_load 37 (.tmp 81) ?_ (p + 1) 0 ?_ (U.map (Value.int .u32)) _ (HRU.out.keeps hS) Try.underlying37 rfl (by rw [List.length_map, lU]; exact sz_rnum)) <;> rfl)
  try simp only [kP]
  refine keep_pure (o := ?_) (v := ?_) ?_ ?_ ?_ ?_
  rotate_left 2
  focus (simp only [kG]; exact rfl)
  focus rfl
  focus ((intro wS hS; go_simp) <;> with_reducible rfl)
  try simp only [kP]
  refine keep_pure (o := ?_) (v := ?_) ?_ ?_ ?_ ?_
  rotate_left 2
  focus (simp only [kG]; exact rfl)
  focus rfl
  focus (intro wS hS; (refine cu_run_load 37 (.tmp 83) ?_ (p + 1) 16 ?_ (T.map (Value.int .u32)) _ (HRT.out.keeps hS) Try.underlying37 rfl (by rw [List.length_map, lT]; exact sz_rnum)) <;> rfl)
  try simp only [kP]
  refine keep_pure (o := ?_) (v := ?_) ?_ ?_ ?_ ?_
  rotate_left 2
  focus (simp only [kG]; exact rfl)
  focus rfl
  focus (intro wS hS; (refine cu_run_load 37 (.tmp 5) ?_ g1 0 ?_ (C1.map (Value.int .u32)) _ (HRM.out.keeps hS) Try.underlying37 rfl (by rw [List.length_map, lC1]; exact sz_rnum)) <;> rfl)
  try simp only [kP]
  refine keep_call (o := ?_) (f := ?_) (args := ?_) (v := ?_) ?_ ?_ ?_ ?_ ?_
  rotate_left 4
  focus (simp only [kG]; exact rfl)
  focus rfl
  focus (intro wS; go_simp; refine ⟨?_, ?_⟩ <;> with_reducible rfl)
  focus (intro wS hS; exact HC16.out wS (HKW.out.trans hS))
  try simp only [kP]
  refine keep_pure (o := ?_) (v := ?_) ?_ ?_ ?_ ?_
  rotate_left 2
  focus (simp only [kG]; exact rfl)
  focus rfl
  focus (intro wS hS; (refine cu_run_load 37 (.tmp 5) ?_ g1 0 ?_ (C1.map (Value.int .u32)) _ (HRM.out.keeps hS) Try.underlying37 rfl (by rw [List.length_map, lC1]; exact sz_rnum)) <;> rfl)
  try simp only [kP]
  refine keep_call (o := ?_) (f := ?_) (args := ?_) (v := ?_) ?_ ?_ ?_ ?_ ?_
  rotate_left 4
  focus (simp only [kG]; exact rfl)
  focus rfl
  focus (intro wS; go_simp; refine ⟨?_, ?_⟩ <;> with_reducible rfl)
  focus (intro wS hS; exact HC17.out wS (HKW.out.trans hS))
  try simp only [kP]
  refine keep_pure (o := ?_) (v := ?_) ?_ ?_ ?_ ?_
  rotate_left 2
  focus (simp only [kG]; exact rfl)
  focus rfl
  focus (intro wS hS; (refine cu_run_load 37 (.tmp 7) ?_ g3 0 ?_ (C2.map (Value.int .u32)) _ (HRt0.out.keeps hS) Try.underlying37 rfl (by rw [List.length_map, lC2]; exact sz_rnum)) <;> rfl)
  try simp only [kP]
  refine keep_pure (o := ?_) (v := ?_) ?_ ?_ ?_ ?_
  rotate_left 2
  focus (simp only [kG]; exact rfl)
  focus rfl
  focus (intro wS hS; (refine cu_run_load 37 (.tmp 9) ?_ g5 0 ?_ (C4.map (Value.int .u32)) _ (HRt2.out.keeps hS) Try.underlying37 rfl (by rw [List.length_map, lC4]; exact sz_rnum)) <;> rfl)
  try simp only [kP]
  refine keep_pure (o := ?_) (v := ?_) ?_ ?_ ?_ ?_
  rotate_left 2
  focus (simp only [kG]; exact rfl)
  focus rfl
  focus (intro wS hS; (refine cu_run_load 37 (.tmp 5) ?_ g1 0 ?_ (C1.map (Value.int .u32)) _ (HRM.out.keeps hS) Try.underlying37 rfl (by rw [List.length_map, lC1]; exact sz_rnum)) <;> rfl)
  try simp only [kP]
  refine keep_call (o := ?_) (f := ?_) (args := ?_) (v := ?_) ?_ ?_ ?_ ?_ ?_
  rotate_left 4
  focus (simp only [kG]; exact rfl)
  focus rfl
  focus (intro wS; go_simp; refine ⟨?_, ?_⟩ <;> with_reducible rfl)
  focus (intro wS hS; exact HC18.out wS (HKW.out.trans hS))
  try simp only [kP]
  refine keep_pure (o := ?_) (v := ?_) ?_ ?_ ?_ ?_
  rotate_left 2
  focus (simp only [kG]; exact rfl)
  focus rfl
  focus (intro wS hS; (refine cu_run_load 37 (.tmp 5) ?_ g1 0 ?_ (C1.map (Value.int .u32)) _ (HRM.out.keeps hS) Try.underlying37 rfl (by rw [List.length_map, lC1]; exact sz_rnum)) <;> rfl)
  try simp only [kP]
  refine keep_call (o := ?_) (f := ?_) (args := ?_) (v := ?_) ?_ ?_ ?_ ?_ ?_
  rotate_left 4
  focus (simp only [kG]; exact rfl)
  focus rfl
  focus (intro wS; go_simp; refine ⟨?_, ?_⟩ <;> with_reducible rfl)
  focus (intro wS hS; exact HC19.out wS (HKW.out.trans hS))
  try simp only [kP]
  refine keep_nil ?_
  intro GG V1 hk1 hG
  obtain ⟨ha20, hz20, hd20⟩ := hG 20 (by simp)
  clear hd20
  simp only [putsA, dstAt, Act.put, ptrV, List.drop_succ_cons, List.drop_zero, List.getElem?_toArray, List.getElem?_cons_succ, List.getElem?_cons_zero, Option.bind_some, List.setIfInBounds_toArray, List.set_cons_zero, List.set_cons_succ]
  generalize GG 20 = g8 at *
  clear hG
  have HZ20 := Lib.hid hz20; have HB20 := Lib.hid (show _ ≤ _ from ha20)
  clear hz20 ha20
  have HV1 := Lib.hid hk1; clear hk1
  go_upto_region 9 with (first | (refine wpList_store_row rfl 37 (.tmp 12) (.tmp 94) rfl _ 0 rfl zeros8 (C19.map (Value.int .u32)) rfl HZ20.out (by rw [List.length_map, lC19]; rfl) (by rw [List.length_map, lC19]; exact sz_rnum) (int_oneCell _) ?_; intro W2 hr2 hc2; have HN1 := Lib.hid hr2; have HC1 := Lib.hid hc2; clear hr2 hc2))
  have HN := HN1; have HB := HB20
  have HK2 := Lib.hid (nm_keeps_chg HV1.out HC1.out HB.out)
  have hlt_t4_g8 := Nat.lt_of_lt_of_le (HRt4.out.lt (map_ne lC14)) HB.out
  have HRA := Lib.hid (HRA.out.keeps HK2.out)
  have HRX := Lib.hid (HRX.out.keeps HK2.out)
  have HRY := Lib.hid (HRY.out.keeps HK2.out)
  have HRZ := Lib.hid (HRZ.out.keeps HK2.out)
  have HRB := Lib.hid (HRB.out.keeps HK2.out)
  have HRU := Lib.hid (HRU.out.keeps HK2.out)
  have HRV := Lib.hid (HRV.out.keeps HK2.out)
  have HRT := Lib.hid (HRT.out.keeps HK2.out)
  have HRres := Lib.hid (HRres.out.keeps HK2.out)
  have HRM := Lib.hid (HRM.out.keeps HK2.out)
  have HRK21 := Lib.hid (HRK21.out.keeps HK2.out)
  have HRt0 := Lib.hid (HRt0.out.keeps HK2.out)
  have HRt1 := Lib.hid (HRt1.out.keeps HK2.out)
  have HRt2 := Lib.hid (HRt2.out.keeps HK2.out)
  have HRt3 := Lib.hid (HRt3.out.keeps HK2.out)
  have HRt4 := Lib.hid (HRt4.out.keeps HK2.out)
  have HKW := Lib.hid (HKW.out.trans HK2.out)
  have HRy := HN
  refine wp_region_keep 7 [] [0, 1, 2, 3, 4, 5, 6] (fun _ => zeros8) (by kernel_rfl) (by kernel_rfl) (by intro i hi; cases hi) ?_
  refine keep_pure (o := ?_) (v := ?_) ?_ ?_ ?_ ?_
  rotate_left 2
  focus (simp only [kG]; exact rfl)
  focus rfl
  focus (intro wS hS; (refine cu_run_load 37 (.tmp 7) ?_ g3 0 ?_ (C2.map (Value.int .u32)) _ (HRt0.out.keeps hS) Try.underlying37 rfl (by rw [List.length_map, lC2]; exact sz_rnum)) <;> rfl)
  try simp only [kP]
  refine keep_pure (o := ?_) (v := ?_) ?_ ?_ ?_ ?_
  rotate_left 2
  focus (simp only [kG]; exact rfl)
  focus rfl
  focus (intro wS hS; (refine cu_run_load 37 (.tmp 7) ?_ g3 0 ?_ (C2.map (Value.int .u32)) _ (HRt0.out.keeps hS) Try.underlying37 rfl (by rw [List.length_map, lC2]; exact sz_rnum)) <;> rfl)
  try simp only [kP]
  refine keep_pure (o := ?_) (v := ?_) ?_ ?_ ?_ ?_
  rotate_left 2
  focus (simp only [kG]; exact rfl)
  focus rfl
  focus (intro wS hS; (refine cu_run_load 37 (.tmp 5) ?_ g1 0 ?_ (C1.map (Value.int .u32)) _ (HRM.out.keeps hS) Try.underlying37 rfl (by rw [List.length_map, lC1]; exact sz_rnum)) <;> rfl)
  try simp only [kP]
  refine keep_call (o := ?_) (f := ?_) (args := ?_) (v := ?_) ?_ ?_ ?_ ?_ ?_
  rotate_left 4
  focus (simp only [kG]; exact rfl)
  focus rfl
  focus (intro wS; go_simp; refine ⟨?_, ?_⟩ <;> with_reducible rfl)
  focus (intro wS hS; exact HC20.out wS (HKW.out.trans hS))
  try simp only [kP]
  refine keep_pure (o := ?_) (v := ?_) ?_ ?_ ?_ ?_
  rotate_left 2
  focus (simp only [kG]; exact rfl)
  focus rfl
  focus (intro wS hS; (refine cu_run_load 37 (.tmp 7) ?_ g3 0 ?_ (C2.map (Value.int .u32)) _ (HRt0.out.keeps hS) Try.underlying37 rfl (by rw [List.length_map, lC2]; exact sz_rnum)) <;> rfl)
  try simp only [kP]
  refine keep_pure (o := ?_) (v := ?_) ?_ ?_ ?_ ?_
  rotate_left 2
  focus (simp only [kG]; exact rfl)
  focus rfl
  focus (intro wS hS; (refine cu_run_load 37 (.tmp 5) ?_ g1 0 ?_ (C1.map (Value.int .u32)) _ (HRM.out.keeps hS) Try.underlying37 rfl (by rw [List.length_map, lC1]; exact sz_rnum)) <;> rfl)
  try simp only [kP]
  refine keep_call (o := ?_) (f := ?_) (args := ?_) (v := ?_) ?_ ?_ ?_ ?_ ?_
  rotate_left 4
  focus (simp only [kG]; exact rfl)
  focus rfl
  focus (intro wS; go_simp; refine ⟨?_, ?_⟩ <;> with_reducible rfl)
  focus (intro wS hS; exact HC21.out wS (HKW.out.trans hS))
  try simp only [kP]
  refine keep_nil ?_
  intro GG V1 hk1 hG
  simp only [putsA, dstAt, Act.put, ptrV, List.drop_succ_cons, List.drop_zero, List.getElem?_toArray, List.getElem?_cons_succ, List.getElem?_cons_zero, Option.bind_some, List.setIfInBounds_toArray, List.set_cons_zero, List.set_cons_succ]
  clear hG
  have HV1 := Lib.hid hk1; clear hk1
  go_upto_region 10 with (first | (refine wpList_store_row rfl 37 (.tmp 7) (.tmp 101) rfl _ 0 rfl (C2.map (Value.int .u32)) (C21.map (Value.int .u32)) rfl (HRt0.out.keeps HV1.out) (by rw [List.length_map, List.length_map, lC21, lC2]) (by rw [List.length_map, lC21]; exact sz_rnum) (int_oneCell _) ?_; intro W2 hr2 hc2; have HN := Lib.hid hr2; have HC := Lib.hid hc2; clear hr2 hc2))
  have HRA := Lib.hid (((HRA.out.keeps HV1.out)).chg HC.out (by omega))
  have HRX := Lib.hid (((HRX.out.keeps HV1.out)).chg HC.out (by omega))
  have HRY := Lib.hid (((HRY.out.keeps HV1.out)).chg HC.out (by omega))
  have HRZ := Lib.hid (((HRZ.out.keeps HV1.out)).chg HC.out (by omega))
  have HRB := Lib.hid (((HRB.out.keeps HV1.out)).chg HC.out (by omega))
  have HRU := Lib.hid (((HRU.out.keeps HV1.out)).chg HC.out (by omega))
  have HRV := Lib.hid (((HRV.out.keeps HV1.out)).chg HC.out (by omega))
  have HRT := Lib.hid (((HRT.out.keeps HV1.out)).chg HC.out (by omega))
  have HRres := Lib.hid (((HRres.out.keeps HV1.out)).chg HC.out (by omega))
  have HRM := Lib.hid (((HRM.out.keeps HV1.out)).chg HC.out (by omega))
  have HRK21 := Lib.hid (((HRK21.out.keeps HV1.out)).chg HC.out (by omega))
  have HRt1 := Lib.hid (((HRt1.out.keeps HV1.out)).chg HC.out (by omega))
  have HRt2 := Lib.hid (((HRt2.out.keeps HV1.out)).chg HC.out (by omega))
  have HRt3 := Lib.hid (((HRt3.out.keeps HV1.out)).chg HC.out (by omega))
  have HRt4 := Lib.hid (((HRt4.out.keeps HV1.out)).chg HC.out (by omega))
  have HRy := Lib.hid (((HRy.out.keeps HV1.out)).chg HC.out (by omega))
  have HKW := Lib.hid (nm_keeps_chg ((HKW.out.trans HV1.out)) HC.out (by omega))
  have HRt0 := HN
  go_upto_region 11 with (first | (refine wpList_load_at rfl 37 (.tmp 6) rfl _ 0 rfl (K21.map (Value.int .u32)) _ HRK21.out Try.underlying37 rfl (by rw [List.length_map, lK21]; exact sz_rnum) ?_) | (refine wpList_load_at rfl 37 (.tmp 9) rfl _ 0 rfl (C4.map (Value.int .u32)) _ HRt2.out Try.underlying37 rfl (by rw [List.length_map, lC4]; exact sz_rnum) ?_) | (refine wpList_load_at rfl 37 (.tmp 5) rfl _ 0 rfl (C1.map (Value.int .u32)) _ HRM.out Try.underlying37 rfl (by rw [List.length_map, lC1]; exact sz_rnum) ?_) | (go_at_call 49; refine (HC22.out _ HKW.out).mono ?_; rintro e V1 ⟨rfl, hk1⟩; have HV1 := Lib.hid hk1; clear hk1) | (refine wpList_store_row rfl 37 (.tmp 9) (.tmp 105) rfl _ 0 rfl (C4.map (Value.int .u32)) (C22.map (Value.int .u32)) rfl (HRt2.out.keeps HV1.out) (by rw [List.length_map, List.length_map, lC22, lC4]) (by rw [List.length_map, lC22]; exact sz_rnum) (int_oneCell _) ?_; intro W2 hr2 hc2; have HN := Lib.hid hr2; have HC := Lib.hid hc2; clear hr2 hc2))
  have HRA := Lib.hid (((HRA.out.keeps HV1.out)).chg HC.out (by omega))
  have HRX := Lib.hid (((HRX.out.keeps HV1.out)).chg HC.out (by omega))
  have HRY := Lib.hid (((HRY.out.keeps HV1.out)).chg HC.out (by omega))
  have HRZ := Lib.hid (((HRZ.out.keeps HV1.out)).chg HC.out (by omega))
  have HRB := Lib.hid (((HRB.out.keeps HV1.out)).chg HC.out (by omega))
  have HRU := Lib.hid (((HRU.out.keeps HV1.out)).chg HC.out (by omega))
  have HRV := Lib.hid (((HRV.out.keeps HV1.out)).chg HC.out (by omega))
  have HRT := Lib.hid (((HRT.out.keeps HV1.out)).chg HC.out (by omega))
  have HRres := Lib.hid (((HRres.out.keeps HV1.out)).chg HC.out (by omega))
  have HRM := Lib.hid (((HRM.out.keeps HV1.out)).chg HC.out (by omega))
  have HRK21 := Lib.hid (((HRK21.out.keeps HV1.out)).chg HC.out (by omega))
  have HRt0 := Lib.hid (((HRt0.out.keeps HV1.out)).chg HC.out (by omega))
  have HRt1 := Lib.hid (((HRt1.out.keeps HV1.out)).chg HC.out (by omega))
  have HRt3 := Lib.hid (((HRt3.out.keeps HV1.out)).chg HC.out (by omega))
  have HRt4 := Lib.hid (((HRt4.out.keeps HV1.out)).chg HC.out (by omega))
  have HRy := Lib.hid (((HRy.out.keeps HV1.out)).chg HC.out (by omega))
  have HKW := Lib.hid (nm_keeps_chg ((HKW.out.trans HV1.out)) HC.out (by omega))
  have HRt2 := HN
  go_upto_region 12 with (first | (refine wpList_load_at rfl 37 (.tmp 8) rfl _ 0 rfl (C3.map (Value.int .u32)) _ HRt1.out Try.underlying37 rfl (by rw [List.length_map, lC3]; exact sz_rnum) ?_) | (refine wpList_load_at rfl 37 (.tmp 9) rfl _ 0 rfl (C22.map (Value.int .u32)) _ HRt2.out Try.underlying37 rfl (by rw [List.length_map, lC22]; exact sz_rnum) ?_) | (refine wpList_load_at rfl 37 (.tmp 5) rfl _ 0 rfl (C1.map (Value.int .u32)) _ HRM.out Try.underlying37 rfl (by rw [List.length_map, lC1]; exact sz_rnum) ?_) | (go_at_call 56; refine (HC23.out _ HKW.out).mono ?_; rintro e V1 ⟨rfl, hk1⟩; have HV1 := Lib.hid hk1; clear hk1) | (refine wpList_store_row rfl 37 (.tmp 13) (.tmp 109) rfl V1.heap.size 0 rfl zeros8 (C23.map (Value.int .u32)) rfl (Row.new _ _ _ rfl) (by rw [List.length_map, lC23]; rfl) (by rw [List.length_map, lC23]; exact sz_rnum) (int_oneCell _) ?_; intro W2 hr2 hc2; have HN := Lib.hid hr2; have HB := Lib.hid (show _ ≤ _ from (HV1.out).size); have HK2 := Lib.hid (nm_keeps_chg (nm_keeps_alloc (HV1.out) _) hc2 (HV1.out).size); clear hr2 hc2))
  generalize V1.heap.size = g9 at *
  have hlt_y_g9 := Nat.lt_of_lt_of_le (HRy.out.lt (map_ne lC19)) HB.out
  have HRA := Lib.hid (HRA.out.keeps HK2.out)
  have HRX := Lib.hid (HRX.out.keeps HK2.out)
  have HRY := Lib.hid (HRY.out.keeps HK2.out)
  have HRZ := Lib.hid (HRZ.out.keeps HK2.out)
  have HRB := Lib.hid (HRB.out.keeps HK2.out)
  have HRU := Lib.hid (HRU.out.keeps HK2.out)
  have HRV := Lib.hid (HRV.out.keeps HK2.out)
  have HRT := Lib.hid (HRT.out.keeps HK2.out)
  have HRres := Lib.hid (HRres.out.keeps HK2.out)
  have HRM := Lib.hid (HRM.out.keeps HK2.out)
  have HRK21 := Lib.hid (HRK21.out.keeps HK2.out)
  have HRt0 := Lib.hid (HRt0.out.keeps HK2.out)
  have HRt1 := Lib.hid (HRt1.out.keeps HK2.out)
  have HRt2 := Lib.hid (HRt2.out.keeps HK2.out)
  have HRt3 := Lib.hid (HRt3.out.keeps HK2.out)
  have HRt4 := Lib.hid (HRt4.out.keeps HK2.out)
  have HRy := Lib.hid (HRy.out.keeps HK2.out)
  have HKW := Lib.hid (HKW.out.trans HK2.out)
  have HRz := HN
  go_upto_region 13 with (first | (refine wpList_load_at rfl 37 (.tmp 8) rfl _ 0 rfl (C3.map (Value.int .u32)) _ HRt1.out Try.underlying37 rfl (by rw [List.length_map, lC3]; exact sz_rnum) ?_) | (refine wpList_load_at rfl 37 (.tmp 9) rfl _ 0 rfl (C22.map (Value.int .u32)) _ HRt2.out Try.underlying37 rfl (by rw [List.length_map, lC22]; exact sz_rnum) ?_) | (refine wpList_load_at rfl 37 (.tmp 5) rfl _ 0 rfl (C1.map (Value.int .u32)) _ HRM.out Try.underlying37 rfl (by rw [List.length_map, lC1]; exact sz_rnum) ?_) | (go_at_call 26; refine (HC24.out _ HKW.out).mono ?_; rintro e V1 ⟨rfl, hk1⟩; have HV1 := Lib.hid hk1; clear hk1) | (refine wpList_store_row rfl 37 (.tmp 8) (.tmp 113) rfl _ 0 rfl (C3.map (Value.int .u32)) (C24.map (Value.int .u32)) rfl (HRt1.out.keeps HV1.out) (by rw [List.length_map, List.length_map, lC24, lC3]) (by rw [List.length_map, lC24]; exact sz_rnum) (int_oneCell _) ?_; intro W2 hr2 hc2; have HN := Lib.hid hr2; have HC := Lib.hid hc2; clear hr2 hc2))
  have HRA := Lib.hid (((HRA.out.keeps HV1.out)).chg HC.out (by omega))
  have HRX := Lib.hid (((HRX.out.keeps HV1.out)).chg HC.out (by omega))
  have HRY := Lib.hid (((HRY.out.keeps HV1.out)).chg HC.out (by omega))
  have HRZ := Lib.hid (((HRZ.out.keeps HV1.out)).chg HC.out (by omega))
  have HRB := Lib.hid (((HRB.out.keeps HV1.out)).chg HC.out (by omega))
  have HRU := Lib.hid (((HRU.out.keeps HV1.out)).chg HC.out (by omega))
  have HRV := Lib.hid (((HRV.out.keeps HV1.out)).chg HC.out (by omega))
  have HRT := Lib.hid (((HRT.out.keeps HV1.out)).chg HC.out (by omega))
  have HRres := Lib.hid (((HRres.out.keeps HV1.out)).chg HC.out (by omega))
  have HRM := Lib.hid (((HRM.out.keeps HV1.out)).chg HC.out (by omega))
  have HRK21 := Lib.hid (((HRK21.out.keeps HV1.out)).chg HC.out (by omega))
  have HRt0 := Lib.hid (((HRt0.out.keeps HV1.out)).chg HC.out (by omega))
  have HRt2 := Lib.hid (((HRt2.out.keeps HV1.out)).chg HC.out (by omega))
  have HRt3 := Lib.hid (((HRt3.out.keeps HV1.out)).chg HC.out (by omega))
  have HRt4 := Lib.hid (((HRt4.out.keeps HV1.out)).chg HC.out (by omega))
  have HRy := Lib.hid (((HRy.out.keeps HV1.out)).chg HC.out (by omega))
  have HRz := Lib.hid (((HRz.out.keeps HV1.out)).chg HC.out (by omega))
  have HKW := Lib.hid (nm_keeps_chg ((HKW.out.trans HV1.out)) HC.out (by omega))
  have HRt1 := HN
  go_upto_region 14 with (first | (refine wpList_load_at rfl 37 (.tmp 6) rfl _ 0 rfl (K21.map (Value.int .u32)) _ HRK21.out Try.underlying37 rfl (by rw [List.length_map, lK21]; exact sz_rnum) ?_) | (refine wpList_load_at rfl 37 (.tmp 12) rfl _ 0 rfl (C19.map (Value.int .u32)) _ HRy.out Try.underlying37 rfl (by rw [List.length_map, lC19]; exact sz_rnum) ?_) | (refine wpList_load_at rfl 37 (.tmp 5) rfl _ 0 rfl (C1.map (Value.int .u32)) _ HRM.out Try.underlying37 rfl (by rw [List.length_map, lC1]; exact sz_rnum) ?_) | (go_at_call 49; refine (HC25.out _ HKW.out).mono ?_; rintro e V1 ⟨rfl, hk1⟩; have HV1 := Lib.hid hk1; clear hk1) | (refine wpList_store_row rfl 37 (.tmp 12) (.tmp 117) rfl _ 0 rfl (C19.map (Value.int .u32)) (C25.map (Value.int .u32)) rfl (HRy.out.keeps HV1.out) (by rw [List.length_map, List.length_map, lC25, lC19]) (by rw [List.length_map, lC25]; exact sz_rnum) (int_oneCell _) ?_; intro W2 hr2 hc2; have HN := Lib.hid hr2; have HC := Lib.hid hc2; clear hr2 hc2))
  have HRA := Lib.hid (((HRA.out.keeps HV1.out)).chg HC.out (by omega))
  have HRX := Lib.hid (((HRX.out.keeps HV1.out)).chg HC.out (by omega))
  have HRY := Lib.hid (((HRY.out.keeps HV1.out)).chg HC.out (by omega))
  have HRZ := Lib.hid (((HRZ.out.keeps HV1.out)).chg HC.out (by omega))
  have HRB := Lib.hid (((HRB.out.keeps HV1.out)).chg HC.out (by omega))
  have HRU := Lib.hid (((HRU.out.keeps HV1.out)).chg HC.out (by omega))
  have HRV := Lib.hid (((HRV.out.keeps HV1.out)).chg HC.out (by omega))
  have HRT := Lib.hid (((HRT.out.keeps HV1.out)).chg HC.out (by omega))
  have HRres := Lib.hid (((HRres.out.keeps HV1.out)).chg HC.out (by omega))
  have HRM := Lib.hid (((HRM.out.keeps HV1.out)).chg HC.out (by omega))
  have HRK21 := Lib.hid (((HRK21.out.keeps HV1.out)).chg HC.out (by omega))
  have HRt0 := Lib.hid (((HRt0.out.keeps HV1.out)).chg HC.out (by omega))
  have HRt1 := Lib.hid (((HRt1.out.keeps HV1.out)).chg HC.out (by omega))
  have HRt2 := Lib.hid (((HRt2.out.keeps HV1.out)).chg HC.out (by omega))
  have HRt3 := Lib.hid (((HRt3.out.keeps HV1.out)).chg HC.out (by omega))
  have HRt4 := Lib.hid (((HRt4.out.keeps HV1.out)).chg HC.out (by omega))
  have HRz := Lib.hid (((HRz.out.keeps HV1.out)).chg HC.out (by omega))
  have HKW := Lib.hid (nm_keeps_chg ((HKW.out.trans HV1.out)) HC.out (by omega))
  have HRy := HN
  refine wp_region_keep 11 [10] [0, 1, 2, 3, 4, 5, 6, 7, 8, 9] (fun _ => zeros8) (by kernel_rfl) (by kernel_rfl) (by intro i hi; simp only [List.mem_cons, List.not_mem_nil, or_false] at hi; (first | (rcases hi with rfl | rfl) | subst hi) <;> exact ⟨_, rfl, alloc_rnum rfl rfl⟩) ?_
  refine keep_pure (o := ?_) (v := ?_) ?_ ?_ ?_ ?_
  rotate_left 2
  focus (simp only [kG]; exact rfl)
  focus rfl
  focus (intro wS hS; (refine cu_run_load 37 (.tmp 10) ?_ g6 0 ?_ (C9.map (Value.int .u32)) _ (HRt3.out.keeps hS) Try.underlying37 rfl (by rw [List.length_map, lC9]; exact sz_rnum)) <;> rfl)
  try simp only [kP]
  refine keep_pure (o := ?_) (v := ?_) ?_ ?_ ?_ ?_
  rotate_left 2
  focus (simp only [kG]; exact rfl)
  focus rfl
  focus (intro wS hS; (refine cu_run_load 37 (.tmp 8) ?_ g4 0 ?_ (C24.map (Value.int .u32)) _ (HRt1.out.keeps hS) Try.underlying37 rfl (by rw [List.length_map, lC24]; exact sz_rnum)) <;> rfl)
  try simp only [kP]
  refine keep_pure (o := ?_) (v := ?_) ?_ ?_ ?_ ?_
  rotate_left 2
  focus (simp only [kG]; exact rfl)
  focus rfl
  focus (intro wS hS; (refine cu_run_load 37 (.tmp 5) ?_ g1 0 ?_ (C1.map (Value.int .u32)) _ (HRM.out.keeps hS) Try.underlying37 rfl (by rw [List.length_map, lC1]; exact sz_rnum)) <;> rfl)
  try simp only [kP]
  refine keep_call (o := ?_) (f := ?_) (args := ?_) (v := ?_) ?_ ?_ ?_ ?_ ?_
  rotate_left 4
  focus (simp only [kG]; exact rfl)
  focus rfl
  focus (intro wS; go_simp; refine ⟨?_, ?_⟩ <;> with_reducible rfl)
  focus (intro wS hS; exact HC26.out wS (HKW.out.trans hS))
  try simp only [kP]
  refine keep_pure (o := ?_) (v := ?_) ?_ ?_ ?_ ?_
  rotate_left 2
  focus (simp only [kG]; exact rfl)
  focus rfl
  focus (intro wS hS; (refine cu_run_load 37 (.tmp 11) ?_ g7 0 ?_ (C14.map (Value.int .u32)) _ (HRt4.out.keeps hS) Try.underlying37 rfl (by rw [List.length_map, lC14]; exact sz_rnum)) <;> rfl)
  try simp only [kP]
  refine keep_pure (o := ?_) (v := ?_) ?_ ?_ ?_ ?_
  rotate_left 2
  focus (simp only [kG]; exact rfl)
  focus rfl
  focus (intro wS hS; (refine cu_run_load 37 (.tmp 12) ?_ g8 0 ?_ (C25.map (Value.int .u32)) _ (HRy.out.keeps hS) Try.underlying37 rfl (by rw [List.length_map, lC25]; exact sz_rnum)) <;> rfl)
  try simp only [kP]
  refine keep_pure (o := ?_) (v := ?_) ?_ ?_ ?_ ?_
  rotate_left 2
  focus (simp only [kG]; exact rfl)
  focus rfl
  focus (intro wS hS; (refine cu_run_load 37 (.tmp 5) ?_ g1 0 ?_ (C1.map (Value.int .u32)) _ (HRM.out.keeps hS) Try.underlying37 rfl (by rw [List.length_map, lC1]; exact sz_rnum)) <;> rfl)
  try simp only [kP]
  refine keep_call (o := ?_) (f := ?_) (args := ?_) (v := ?_) ?_ ?_ ?_ ?_ ?_
  rotate_left 4
  focus (simp only [kG]; exact rfl)
  focus rfl
  focus (intro wS; go_simp; refine ⟨?_, ?_⟩ <;> with_reducible rfl)
  focus (intro wS hS; exact HC27.out wS (HKW.out.trans hS))
  try simp only [kP]
  refine keep_pure (o := ?_) (v := ?_) ?_ ?_ ?_ ?_
  rotate_left 2
  focus (simp only [kG]; exact rfl)
  focus rfl
  focus (intro wS hS; (refine cu_run_load 37 (.tmp 5) ?_ g1 0 ?_ (C1.map (Value.int .u32)) _ (HRM.out.keeps hS) Try.underlying37 rfl (by rw [List.length_map, lC1]; exact sz_rnum)) <;> rfl)
  try simp only [kP]
  refine keep_call (o := ?_) (f := ?_) (args := ?_) (v := ?_) ?_ ?_ ?_ ?_ ?_
  rotate_left 4
  focus (simp only [kG]; exact rfl)
  focus rfl
  focus (intro wS; go_simp; refine ⟨?_, ?_⟩ <;> with_reducible rfl)
  focus (intro wS hS; exact HC28.out wS (HKW.out.trans hS))
  try simp only [kP]
  refine keep_nil ?_
  intro GG V1 hk1 hG
  obtain ⟨ha10, hz10, hd10⟩ := hG 10 (by simp)
  clear hd10
  simp only [putsA, dstAt, Act.put, ptrV, List.drop_succ_cons, List.drop_zero, List.getElem?_toArray, List.getElem?_cons_succ, List.getElem?_cons_zero, Option.bind_some, List.setIfInBounds_toArray, List.set_cons_zero, List.set_cons_succ]
  generalize GG 10 = g10 at *
  clear hG
  have HZ10 := Lib.hid hz10; have HB10 := Lib.hid (show _ ≤ _ from ha10)
  clear hz10 ha10
  have HV1 := Lib.hid hk1; clear hk1
  go_upto_region 15 with (first | (refine wpList_store_row rfl 37 (.tmp 14) (.tmp 127) rfl _ 0 rfl zeros8 (C28.map (Value.int .u32)) rfl HZ10.out (by rw [List.length_map, lC28]; rfl) (by rw [List.length_map, lC28]; exact sz_rnum) (int_oneCell _) ?_; intro W2 hr2 hc2; have HN1 := Lib.hid hr2; have HC1 := Lib.hid hc2; clear hr2 hc2))
  have HN := HN1; have HB := HB10
  have HK2 := Lib.hid (nm_keeps_chg HV1.out HC1.out HB.out)
  have hlt_z_g10 := Nat.lt_of_lt_of_le (HRz.out.lt (map_ne lC23)) HB.out
  have HRA := Lib.hid (HRA.out.keeps HK2.out)
  have HRX := Lib.hid (HRX.out.keeps HK2.out)
  have HRY := Lib.hid (HRY.out.keeps HK2.out)
  have HRZ := Lib.hid (HRZ.out.keeps HK2.out)
  have HRB := Lib.hid (HRB.out.keeps HK2.out)
  have HRU := Lib.hid (HRU.out.keeps HK2.out)
  have HRV := Lib.hid (HRV.out.keeps HK2.out)
  have HRT := Lib.hid (HRT.out.keeps HK2.out)
  have HRres := Lib.hid (HRres.out.keeps HK2.out)
  have HRM := Lib.hid (HRM.out.keeps HK2.out)
  have HRK21 := Lib.hid (HRK21.out.keeps HK2.out)
  have HRt0 := Lib.hid (HRt0.out.keeps HK2.out)
  have HRt1 := Lib.hid (HRt1.out.keeps HK2.out)
  have HRt2 := Lib.hid (HRt2.out.keeps HK2.out)
  have HRt3 := Lib.hid (HRt3.out.keeps HK2.out)
  have HRt4 := Lib.hid (HRt4.out.keeps HK2.out)
  have HRy := Lib.hid (HRy.out.keeps HK2.out)
  have HRz := Lib.hid (HRz.out.keeps HK2.out)
  have HKW := Lib.hid (HKW.out.trans HK2.out)
  have HRx := HN
  refine wp_region_keep 22 [] [0, 1, 2, 3, 4, 5, 6, 7, 8, 9, 10, 11, 12, 13, 14, 15, 16, 17, 18, 19, 20, 21] (fun _ => zeros8) (by kernel_rfl) (by kernel_rfl) (by intro i hi; cases hi) ?_
  refine keep_pure (o := ?_) (v := ?_) ?_ ?_ ?_ ?_
  rotate_left 2
  focus (simp only [kG]; exact rfl)
  focus rfl
  focus (intro wS hS; (refine cu_run_load 37 (.tmp 14) ?_ g10 0 ?_ (C28.map (Value.int .u32)) _ (HRx.out.keeps hS) Try.underlying37 rfl (by rw [List.length_map, lC28]; exact sz_rnum)) <;> rfl)
  try simp only [kP]
  refine keep_pure (o := ?_) (v := ?_) ?_ ?_ ?_ ?_
  rotate_left 2
  focus (simp only [kG]; exact rfl)
  focus rfl
  focus (intro wS hS; (refine cu_run_load 37 (.tmp 8) ?_ g4 0 ?_ (C24.map (Value.int .u32)) _ (HRt1.out.keeps hS) Try.underlying37 rfl (by rw [List.length_map, lC24]; exact sz_rnum)) <;> rfl)
  try simp only [kP]
  refine keep_pure (o := ?_) (v := ?_) ?_ ?_ ?_ ?_
  rotate_left 2
  focus (simp only [kG]; exact rfl)
  focus rfl
  focus (intro wS hS; (refine cu_run_load 37 (.tmp 13) ?_ g9 0 ?_ (C23.map (Value.int .u32)) _ (HRz.out.keeps hS) Try.underlying37 rfl (by rw [List.length_map, lC23]; exact sz_rnum)) <;> rfl)
  try simp only [kP]
  refine keep_pure (o := ?_) (v := ?_) ?_ ?_ ?_ ?_
  rotate_left 2
  focus (simp only [kG]; exact rfl)
  focus rfl
  focus (intro wS hS; (refine cu_run_load 37 (.tmp 5) ?_ g1 0 ?_ (C1.map (Value.int .u32)) _ (HRM.out.keeps hS) Try.underlying37 rfl (by rw [List.length_map, lC1]; exact sz_rnum)) <;> rfl)
  try simp only [kP]
  refine keep_call (o := ?_) (f := ?_) (args := ?_) (v := ?_) ?_ ?_ ?_ ?_ ?_
  rotate_left 4
  focus (simp only [kG]; exact rfl)
  focus rfl
  focus (intro wS; go_simp; refine ⟨?_, ?_⟩ <;> with_reducible rfl)
  focus (intro wS hS; exact HC29.out wS (HKW.out.trans hS))
  try simp only [kP]
  refine keep_pure (o := ?_) (v := ?_) ?_ ?_ ?_ ?_
  rotate_left 2
  focus (simp only [kG]; exact rfl)
  focus rfl
  focus (intro wS hS; (refine cu_run_load 37 (.tmp 12) ?_ g8 0 ?_ (C25.map (Value.int .u32)) _ (HRy.out.keeps hS) Try.underlying37 rfl (by rw [List.length_map, lC25]; exact sz_rnum)) <;> rfl)
  try simp only [kP]
  refine keep_pure (o := ?_) (v := ?_) ?_ ?_ ?_ ?_
  rotate_left 2
  focus (simp only [kG]; exact rfl)
  focus rfl
  focus (intro wS hS; (refine cu_run_load 37 (.tmp 7) ?_ g3 0 ?_ (C21.map (Value.int .u32)) _ (HRt0.out.keeps hS) Try.underlying37 rfl (by rw [List.length_map, lC21]; exact sz_rnum)) <;> rfl)
  try simp only [kP]
  refine keep_pure (o := ?_) (v := ?_) ?_ ?_ ?_ ?_
  rotate_left 2
  focus (simp only [kG]; exact rfl)
  focus rfl
  focus (intro wS hS; (refine cu_run_load 37 (.tmp 5) ?_ g1 0 ?_ (C1.map (Value.int .u32)) _ (HRM.out.keeps hS) Try.underlying37 rfl (by rw [List.length_map, lC1]; exact sz_rnum)) <;> rfl)
  try simp only [kP]
  refine keep_call (o := ?_) (f := ?_) (args := ?_) (v := ?_) ?_ ?_ ?_ ?_ ?_
  rotate_left 4
  focus (simp only [kG]; exact rfl)
  focus rfl
  focus (intro wS; go_simp; refine ⟨?_, ?_⟩ <;> with_reducible rfl)
  focus (intro wS hS; exact HC30.out wS (HKW.out.trans hS))
  try simp only [kP]
  refine keep_pure (o := ?_) (v := ?_) ?_ ?_ ?_ ?_
  rotate_left 2
  focus (simp only [kG]; exact rfl)
  focus rfl
  focus (intro wS hS; (refine cu_run_load 37 (.tmp 5) ?_ g1 0 ?_ (C1.map (Value.int .u32)) _ (HRM.out.keeps hS) Try.underlying37 rfl (by rw [List.length_map, lC1]; exact sz_rnum)) <;> rfl)
  try simp only [kP]
  refine keep_call (o := ?_) (f := ?_) (args := ?_) (v := ?_) ?_ ?_ ?_ ?_ ?_
  rotate_left 4
  focus (simp only [kG]; exact rfl)
  focus rfl
  focus (intro wS; go_simp; refine ⟨?_, ?_⟩ <;> with_reducible rfl)
  focus (intro wS hS; exact HC31.out wS (HKW.out.trans hS))
  try simp only [kP]
  refine keep_pure (o := ?_) (v := ?_) ?_ ?_ ?_ ?_
  rotate_left 2
  focus (simp only [kG]; exact rfl)
  focus rfl
  focus (intro wS hS; (refine cu_run_load 37 (.tmp 13) ?_ g9 0 ?_ (C23.map (Value.int .u32)) _ (HRz.out.keeps hS) Try.underlying37 rfl (by rw [List.length_map, lC23]; exact sz_rnum)) <;> rfl)
  try simp only [kP]
  refine keep_pure (o := ?_) (v := ?_) ?_ ?_ ?_ ?_
  rotate_left 2
  focus (simp only [kG]; exact rfl)
  focus rfl
  focus (intro wS hS; (refine cu_run_load 37 (.tmp 11) ?_ g7 0 ?_ (C14.map (Value.int .u32)) _ (HRt4.out.keeps hS) Try.underlying37 rfl (by rw [List.length_map, lC14]; exact sz_rnum)) <;> rfl)
  try simp only [kP]
  refine keep_pure (o := ?_) (v := ?_) ?_ ?_ ?_ ?_
  rotate_left 2
  focus (simp only [kG]; exact rfl)
  focus rfl
  focus (intro wS hS; (refine cu_run_load 37 (.tmp 5) ?_ g1 0 ?_ (C1.map (Value.int .u32)) _ (HRM.out.keeps hS) Try.underlying37 rfl (by rw [List.length_map, lC1]; exact sz_rnum)) <;> rfl)
  try simp only [kP]
  refine keep_call (o := ?_) (f := ?_) (args := ?_) (v := ?_) ?_ ?_ ?_ ?_ ?_
  rotate_left 4
  focus (simp only [kG]; exact rfl)
  focus rfl
  focus (intro wS; go_simp; refine ⟨?_, ?_⟩ <;> with_reducible rfl)
  focus (intro wS hS; exact HC32.out wS (HKW.out.trans hS))
  try simp only [kP]
  refine keep_pure (o := ?_) (v := ?_) ?_ ?_ ?_ ?_
  rotate_left 2
  focus (simp only [kG]; exact rfl)
  focus rfl
  focus (intro wS hS; (refine cu_run_load 37 (.tmp 7) ?_ g3 0 ?_ (C21.map (Value.int .u32)) _ (HRt0.out.keeps hS) Try.underlying37 rfl (by rw [List.length_map, lC21]; exact sz_rnum)) <;> rfl)
  try simp only [kP]
  refine keep_pure (o := ?_) (v := ?_) ?_ ?_ ?_ ?_
  rotate_left 2
  focus (simp only [kG]; exact rfl)
  focus rfl
  focus (intro wS hS; (refine cu_run_load 37 (.tmp 10) ?_ g6 0 ?_ (C9.map (Value.int .u32)) _ (HRt3.out.keeps hS) Try.underlying37 rfl (by rw [List.length_map, lC9]; exact sz_rnum)) <;> rfl)
  try simp only [kP]
  refine keep_pure (o := ?_) (v := ?_) ?_ ?_ ?_ ?_
  rotate_left 2
  focus (simp only [kG]; exact rfl)
  focus rfl
  focus (intro wS hS; (refine cu_run_load 37 (.tmp 5) ?_ g1 0 ?_ (C1.map (Value.int .u32)) _ (HRM.out.keeps hS) Try.underlying37 rfl (by rw [List.length_map, lC1]; exact sz_rnum)) <;> rfl)
  try simp only [kP]
  refine keep_call (o := ?_) (f := ?_) (args := ?_) (v := ?_) ?_ ?_ ?_ ?_ ?_
  rotate_left 4
  focus (simp only [kG]; exact rfl)
  focus rfl
  focus (intro wS; go_simp; refine ⟨?_, ?_⟩ <;> with_reducible rfl)
  focus (intro wS hS; exact HC33.out wS (HKW.out.trans hS))
  try simp only [kP]
  refine keep_pure (o := ?_) (v := ?_) ?_ ?_ ?_ ?_
  rotate_left 2
  focus (simp only [kG]; exact rfl)
  focus rfl
  focus (intro wS hS; (refine cu_run_load 37 (.tmp 5) ?_ g1 0 ?_ (C1.map (Value.int .u32)) _ (HRM.out.keeps hS) Try.underlying37 rfl (by rw [List.length_map, lC1]; exact sz_rnum)) <;> rfl)
  try simp only [kP]
  refine keep_call (o := ?_) (f := ?_) (args := ?_) (v := ?_) ?_ ?_ ?_ ?_ ?_
  rotate_left 4
  focus (simp only [kG]; exact rfl)
  focus rfl
  focus (intro wS; go_simp; refine ⟨?_, ?_⟩ <;> with_reducible rfl)
  focus (intro wS hS; exact HC34.out wS (HKW.out.trans hS))
  try simp only [kP]
  refine keep_pure (o := ?_) (v := ?_) ?_ ?_ ?_ ?_
  rotate_left 2
  focus (simp only [kG]; exact rfl)
  focus rfl
  focus (intro wS hS; (refine cu_run_build 39 [(0, .tmp 128), (1, .tmp 138), (2, .tmp 148)] ?_ _ ?_ _ HBP.out) <;> rfl)
  try simp only [kP]
  refine keep_nil ?_
  intro GG V1 hk1 hG
  simp only [putsA, dstAt, Act.put, ptrV, List.drop_succ_cons, List.drop_zero, List.getElem?_toArray, List.getElem?_cons_succ, List.getElem?_cons_zero, Option.bind_some, List.setIfInBounds_toArray, List.set_cons_zero, List.set_cons_succ]
  clear hG
  have HV1 := Lib.hid hk1; clear hk1
  go_wp2_with (first | (refine wpList_store_row rfl 39 (.tmp 4) (.tmp 149) rfl _ 0 rfl Zr (RT.map (Value.int .u32)) rfl (HRres.out.keeps HV1.out) (by rw [List.length_map, lRT, hZr]) (by rw [List.length_map, lRT]; exact sz_rpt) (int_oneCell _) ?_; intro W2 hr2 hc2; have HN := Lib.hid hr2; have HC := Lib.hid hc2; clear hr2 hc2))
  have HRA := Lib.hid (((HRA.out.keeps HV1.out)).chg HC.out (by omega))
  have HRX := Lib.hid (((HRX.out.keeps HV1.out)).chg HC.out (by omega))
  have HRY := Lib.hid (((HRY.out.keeps HV1.out)).chg HC.out (by omega))
  have HRZ := Lib.hid (((HRZ.out.keeps HV1.out)).chg HC.out (by omega))
  have HRB := Lib.hid (((HRB.out.keeps HV1.out)).chg HC.out (by omega))
  have HRU := Lib.hid (((HRU.out.keeps HV1.out)).chg HC.out (by omega))
  have HRV := Lib.hid (((HRV.out.keeps HV1.out)).chg HC.out (by omega))
  have HRT := Lib.hid (((HRT.out.keeps HV1.out)).chg HC.out (by omega))
  have HRM := Lib.hid (((HRM.out.keeps HV1.out)).chg HC.out (by omega))
  have HRK21 := Lib.hid (((HRK21.out.keeps HV1.out)).chg HC.out (by omega))
  have HRt0 := Lib.hid (((HRt0.out.keeps HV1.out)).chg HC.out (by omega))
  have HRt1 := Lib.hid (((HRt1.out.keeps HV1.out)).chg HC.out (by omega))
  have HRt2 := Lib.hid (((HRt2.out.keeps HV1.out)).chg HC.out (by omega))
  have HRt3 := Lib.hid (((HRt3.out.keeps HV1.out)).chg HC.out (by omega))
  have HRt4 := Lib.hid (((HRt4.out.keeps HV1.out)).chg HC.out (by omega))
  have HRy := Lib.hid (((HRy.out.keeps HV1.out)).chg HC.out (by omega))
  have HRz := Lib.hid (((HRz.out.keeps HV1.out)).chg HC.out (by omega))
  have HRx := Lib.hid (((HRx.out.keeps HV1.out)).chg HC.out (by omega))
  have HKW := Lib.hid (nm_keeps_chg ((HKW.out.trans HV1.out)) HC.out (by omega))
  exact bodyPost_ret (results_cell_at (p := 4) (ty := 39) rfl _ _ (p + 1 + 1) 0 _ _ rfl HN.out Try.underlying39 rfl (by rw [List.length_map, lRT]; exact sz_rpt)) rfl ⟨rfl, HKW.out⟩
end Go.Proofs.Ytajipagpdphejaa
