/- curve's group: a point so often. No condition. | curve's group: flat. No condition. | The reference's Flat. No condition. -/
import Derived.Test.YtlofddoojkeakaaDoorGC2
import Derived.Test.YtlofddoojkeakaaDoorGC1
namespace Go.Proofs.YtlofddoojkeakaaDoor
set_option linter.unusedVariables false
set_option linter.unusedSimpArgs false
open Go Go.RowKit Cv

def TimMem (w wr : World) (p : Nat) (X E L : List Int) (Z : List Value) : Prop := Keeps w wr ∧ Row wr p 0 (X.map (Value.int .u64)) ∧ Row wr (p + 1) 0 (E.map (Value.int .u64)) ∧ Row wr (p + 1 + 1) 0 Z ∧ Row wr (p + 1 + 1 + 1) 0 (L.map (Value.int .u64))
set_option maxRecDepth 100000 in
set_option maxHeartbeats 8000000 in
theorem times_walk (gv : Value) (PA E : List Int) (T D F : Nat → List Int) (hPA : PA.length = 12) (hE : E.length = 4) (hER : ∀ i, i < 4 → 0 ≤ E.getD i 0 ∧ E.getD i 0 < 18446744073709551616) (h0 : T 0 = List.replicate 12 0) (hTL : ∀ j, (T j).length = 12) (hDL : ∀ j, (D j).length = 12)
    (hS : ∀ i, i < 256 → (E.getD (i / 64) 0 / 2 ^ (i % 64) % 2 = 1 ∧ T (256 - i) = F (256 - (i + 1))) ∨ (E.getD (i / 64) 0 / 2 ^ (i % 64) % 2 = 0 ∧ T (256 - i) = D (256 - (i + 1)))) (w : World)
    (hD : ∀ j W, Keeps w W → Calls Tryd.prog 69 #[gv, .agg ((T j).map (Value.int .u64)).toArray] W fun e w' => e = .returned (.agg ((D j).map (Value.int .u64)).toArray) ∧ Keeps W w')
    (hF : ∀ j W, Keeps w W → Calls Tryd.prog 40 #[gv, .agg ((D j).map (Value.int .u64)).toArray, .agg (PA.map (Value.int .u64)).toArray] W fun e w' => e = .returned (.agg ((F j).map (Value.int .u64)).toArray) ∧ Keeps W w') :
    Calls Tryd.prog 41 #[gv, .agg (E.map (Value.int .u64)).toArray, .agg (PA.map (Value.int .u64)).toArray] w fun e' w' => e' = .returned (.agg ((T 256).map (Value.int .u64)).toArray) ∧ Keeps w w' := by
  have HM := Lib.hid hD; have HM2 := Lib.hid hF; have HS := Lib.hid hS; have HER := Lib.hid hER; have HE := Lib.hid hE; have HPA := Lib.hid hPA
  have HT0 := Lib.hid h0; have HTL := Lib.hid hTL; have HDL := Lib.hid hDL
  clear hD hF hS hER hE hPA h0 hTL hDL
  go_enter Tryd.func41, Tryd.ntmps41
  go_upto_region 2 with (fail)
  refine wp_rows4 (fun W hk hra hrb hr2 hr3 hs => ?_)
  obtain ⟨p, hp⟩ : ∃ p, p = w.heap.size := ⟨_, rfl⟩
  rw [← hp] at hra hrb hr2 hr3 hs ⊢
  have hkp : w.heap.size ≤ p := by omega
  obtain ⟨Z, hZ, hrz⟩ : ∃ Z : List Value, Z.length = 12 ∧ Row W (p + 1 + 1) 0 Z := ⟨_, rfl, hr2⟩
  have HM0 := Lib.hid (show TimMem w W p E PA (T 0) Z from ⟨hk, hra, hrb, hrz, by rw [HT0.out]; exact hr3⟩)
  clear hp hra hrb hr2 hr3 hrz hk hs
  go_wp2
  go_loopw [8] (fun c wr => ∃ (k : Nat) (z : Int), k ≤ 256 ∧ c = .int .i64 z ∧ Hid (z = (k : Int) - 1) ∧ Hid (TimMem w wr p E PA (T (256 - k)) Z)) (fun c _ => (intOf c + 1).toNat)
  case atStart => exact ⟨256, 255, by omega, rfl, Lib.hid (by omega), HM0⟩
  case round =>
    obtain ⟨k, z, hk8, rfl, HZ, HMM⟩ := hrel
    obtain ⟨hk9, hra9, hrb9, hrz9, hrt9⟩ := HMM.out
    have H1 := Lib.hid hk9; have H2 := Lib.hid hra9; have H3 := Lib.hid hrb9; have H4 := Lib.hid hrz9; have H5 := Lib.hid hrt9
    clear HMM hk9 hra9 hrb9 hrz9 hrt9
    have hkc : k = 0 ∨ ∃ i, k = i + 1 := by
      cases k with
      | zero => exact .inl rfl
      | succ i => exact .inr ⟨i, rfl⟩
    rcases hkc with rfl | ⟨i, rfl⟩
    · obtain rfl : z = -1 := by have := HZ.out; omega
      rw [Nat.sub_zero] at H5
      have hl9 := HTL.out 256
      go_wp2_with (first | (refine wpList_load_at rfl 76 (.tmp 7) rfl _ 0 rfl ((T 256).map (Value.int .u64)) _ H5.out Tryd.underlying76 rfl (by rw [List.length_map, hl9]; exact sz_cpt) ?_) | (refine wpList_store_row rfl 76 (.tmp 6) (.tmp 29) rfl (p + 1 + 1) 0 rfl Z ((T 256).map (Value.int .u64)) rfl H4.out (by rw [List.length_map, hl9, hZ]) (by rw [List.length_map, hl9]; exact sz_cpt) (int_oneCell _) ?_; intro w9 hr9 hc9; have H9 := Lib.hid hr9; have HC9 := Lib.hid hc9; clear hr9 hc9))
      exact bodyPost_ret (v := .agg ((T 256).map (Value.int .u64)).toArray) (results_cell_at (p := 6) (ty := 76) rfl _ _ (p + 1 + 1) 0 _ _ rfl H9.out Tryd.underlying76 rfl (by rw [List.length_map, hl9]; exact sz_cpt)) rfl ⟨rfl, nm_keeps_chg H1.out HC9.out (by omega)⟩
    · obtain rfl : z = (i : Int) := by have := HZ.out; omega
      have hi : i < 256 := by omega
      have c1 := H2.out.int0 (i / 64) (by rw [HE.out]; omega)
      have he := HER.out (i / 64) (by omega)
      have hst := HS.out i hi
      have ht1 := HTL.out (256 - (i + 1))
      have ht2 := HTL.out (256 - i)
      have hsl := HDL.out (256 - (i + 1))
      have HM1 := Lib.hid (HM.out (256 - (i + 1)))
      have HM3 := Lib.hid (HM2.out (256 - (i + 1)))
      generalize hew : E.getD (i / 64) 0 = ew at *
      have HEW := Lib.hid hew
      clear hew
      generalize T (256 - (i + 1)) = TA at *
      generalize D (256 - (i + 1)) = SQ at *
      generalize F (256 - (i + 1)) = FF at *
      generalize hTB : T (256 - i) = TB at *
      have HTB := Lib.hid hTB
      clear hTB
      have hi6 : i % 64 < 64 := Nat.mod_lt _ (by decide)
      rcases hst with ⟨hb, rfl⟩ | ⟨hb, rfl⟩
      · have hand : bits .and .u64 (ew / 2 ^ (i % 64)) 1 = 1 := by
          rw [bits_and_one (Int.ediv_nonneg he.1 (Int.le_of_lt (Int.pow_pos (by decide)))) (Int.lt_of_le_of_lt (Int.ediv_le_self _ he.1) he.2)]; exact hb
        clear hb
        go_upto_region 6 with (first | (refine wpList_load_at rfl 76 (.tmp 7) rfl _ 0 rfl (TA.map (Value.int .u64)) _ H5.out Tryd.underlying76 rfl (by rw [List.length_map, ht1]; exact sz_cpt) ?_) | (go_at_call 69; refine (HM1.out _ H1.out).mono ?_; rintro e W2 ⟨rfl, hk2⟩; have HK2 := Lib.hid (H1.out.trans hk2); have H2' := Lib.hid (H2.out.keeps hk2); have H3' := Lib.hid (H3.out.keeps hk2); have H4' := Lib.hid (H4.out.keeps hk2); have H5' := Lib.hid (H5.out.keeps hk2); clear hk2) | (refine wpList_store_row rfl 76 (.tmp 7) (.tmp 15) rfl (p + 1 + 1 + 1) 0 rfl (TA.map (Value.int .u64)) (SQ.map (Value.int .u64)) rfl H5'.out (by rw [List.length_map, List.length_map, ht1, hsl]) (by rw [List.length_map, hsl]; exact sz_cpt) (int_oneCell _) ?_; intro W3 hr9 hc9; have c1 := (H2'.out.chg hc9 (by omega)).int0 (i / 64) (by rw [HE.out]; omega); rw [HEW.out] at c1; have K2 := Lib.hid (H2'.out.chg hc9 (by omega)); have K3 := Lib.hid (H3'.out.chg hc9 (by omega)); have K4 := Lib.hid (H4'.out.chg hc9 (by omega)); have K5 := Lib.hid hr9; have K1 := Lib.hid (nm_keeps_chg HK2.out hc9 (by omega)); clear hr9 hc9))
        go_upto_region 7 with (fail)
        go_wp2_with (first | (refine wpList_load_at rfl 76 (.tmp 7) rfl _ 0 rfl (SQ.map (Value.int .u64)) _ K5.out Tryd.underlying76 rfl (by rw [List.length_map, hsl]; exact sz_cpt) ?_) | (refine wpList_load_at rfl 76 (.tmp 5) rfl _ 0 rfl (PA.map (Value.int .u64)) _ K3.out Tryd.underlying76 rfl (by rw [List.length_map, HPA.out]; exact sz_cpt) ?_) | (go_at_call 40; refine (HM3.out _ K1.out).mono ?_; rintro e W4 ⟨rfl, hk2⟩; have M1 := Lib.hid (K1.out.trans hk2); have M2 := Lib.hid (K2.out.keeps hk2); have M3 := Lib.hid (K3.out.keeps hk2); have M4 := Lib.hid (K4.out.keeps hk2); have M5 := Lib.hid (K5.out.keeps hk2); clear hk2) | (refine wpList_store_row rfl 76 (.tmp 7) (.tmp 28) rfl (p + 1 + 1 + 1) 0 rfl (SQ.map (Value.int .u64)) (TB.map (Value.int .u64)) rfl M5.out (by rw [List.length_map, List.length_map, ht2, hsl]) (by rw [List.length_map, ht2]; exact sz_cpt) (int_oneCell _) ?_; intro W5 hr9 hc9; have N2 := Lib.hid (M2.out.chg hc9 (by omega)); have N3 := Lib.hid (M3.out.chg hc9 (by omega)); have N4 := Lib.hid (M4.out.chg hc9 (by omega)); have N5 := Lib.hid hr9; have N1 := Lib.hid (nm_keeps_chg M1.out hc9 (by omega)); clear hr9 hc9))
        go_roundw
        case rel => exact ⟨i, (i : Int) - 1, by omega, by first | rfl | go_num, Lib.hid rfl, Lib.hid ⟨N1.out, N2.out, N3.out, N4.out, by rw [HTB.out]; exact N5.out⟩⟩
        case measure => simp [intOf] <;> omega
      · have hand : bits .and .u64 (ew / 2 ^ (i % 64)) 1 = 0 := by
          rw [bits_and_one (Int.ediv_nonneg he.1 (Int.le_of_lt (Int.pow_pos (by decide)))) (Int.lt_of_le_of_lt (Int.ediv_le_self _ he.1) he.2)]; exact hb
        clear hb
        go_wp2_with (first | (refine wpList_load_at rfl 76 (.tmp 7) rfl _ 0 rfl (TA.map (Value.int .u64)) _ H5.out Tryd.underlying76 rfl (by rw [List.length_map, ht1]; exact sz_cpt) ?_) | (go_at_call 69; refine (HM1.out _ H1.out).mono ?_; rintro e W2 ⟨rfl, hk2⟩; have HK2 := Lib.hid (H1.out.trans hk2); have H2' := Lib.hid (H2.out.keeps hk2); have H3' := Lib.hid (H3.out.keeps hk2); have H4' := Lib.hid (H4.out.keeps hk2); have H5' := Lib.hid (H5.out.keeps hk2); clear hk2) | (refine wpList_store_row rfl 76 (.tmp 7) (.tmp 15) rfl (p + 1 + 1 + 1) 0 rfl (TA.map (Value.int .u64)) (TB.map (Value.int .u64)) rfl H5'.out (by rw [List.length_map, List.length_map, ht1, hsl]) (by rw [List.length_map, hsl]; exact sz_cpt) (int_oneCell _) ?_; intro W3 hr9 hc9; have c1 := (H2'.out.chg hc9 (by omega)).int0 (i / 64) (by rw [HE.out]; omega); rw [HEW.out] at c1; have K2 := Lib.hid (H2'.out.chg hc9 (by omega)); have K3 := Lib.hid (H3'.out.chg hc9 (by omega)); have K4 := Lib.hid (H4'.out.chg hc9 (by omega)); have K5 := Lib.hid hr9; have K1 := Lib.hid (nm_keeps_chg HK2.out hc9 (by omega)); clear hr9 hc9))
        go_roundw
        case rel => exact ⟨i, (i : Int) - 1, by omega, by first | rfl | go_num, Lib.hid rfl, Lib.hid ⟨K1.out, K2.out, K3.out, K4.out, by rw [HTB.out]; exact K5.out⟩⟩
        case measure => simp [intOf] <;> omega
theorem times_any (g : Nat) (k : Nat) (a : J) (hk : k < 2 ^ 256) (h : a.ok) (w : World) (hr : Row w g 0 gCells) :
    Calls Tryd.prog 41 #[.pointer (some ⟨g, 0, none⟩), .agg ((nw k).map (Value.int .u64)).toArray, .agg ((ptW a).map (Value.int .u64)).toArray] w fun e w' => e = .returned (.agg ((ptW (timesJ k a 256)).map (Value.int .u64)).toArray) ∧ Keeps w w' := by
  refine times_walk _ (ptW a) (nw k) (fun j => ptW (timesJ k a j)) (fun j => ptW (dblJ (timesJ k a j))) (fun j => ptW (addJ (dblJ (timesJ k a j)) a)) rfl rfl (words_range _) (show ptW ⟨0, 0, 0⟩ = _ by decide) (fun j => rfl) (fun j => rfl) (fun i hi => ?_) w
    (fun j W hk => dbl_any g _ (timesJ_ok k h j) W (hr.keeps hk)) (fun j W hk => gadd_any g _ _ (dblJ_ok (timesJ_ok k h j)) h W (hr.keeps hk))
  have e1 : 256 - i = 256 - (i + 1) + 1 := by omega
  have e2 : 255 - (256 - (i + 1)) = i := by omega
  have hst : timesJ k a (256 - i) = if k / 2 ^ i % 2 = 1 then addJ (dblJ (timesJ k a (256 - (i + 1)))) a else dblJ (timesJ k a (256 - (i + 1))) := by
    conv => lhs; rw [e1, timesJ, e2]
  unfold nw
  rw [words_bit k i hi]
  rcases Nat.mod_two_eq_zero_or_one (k / 2 ^ i) with h | h
  · refine .inr ⟨by rw [h]; rfl, ?_⟩
    rw [hst, h, if_neg (by decide)]
  · refine .inl ⟨by rw [h]; rfl, ?_⟩
    rw [hst, h, if_pos rfl]
theorem results_two {P : Program} {fn : Func} {p q : Tmp} {ty ty2 : TypeId} (h : fn.results = #[.cell p ty, .cell q ty2]) (tmps : Array Value) (w : World) (g off g2 off2 : Nat) (cs cs2 : List Value) (d d2 : TypeDesc)
    (hp : tmps.getD p undef = .pointer (some ⟨g, off, none⟩)) (hg : Row w g off cs) (hu : P.underlying ty = some d) (hd : (match d with | .struct _ | .array _ _ => true | _ => false) = true) (hi : (P.info? ty).map (·.size) = some cs.length)
    (hq : tmps.getD q undef = .pointer (some ⟨g2, off2, none⟩)) (hg2 : Row w g2 off2 cs2) (hu2 : P.underlying ty2 = some d2) (hd2 : (match d2 with | .struct _ | .array _ _ => true | _ => false) = true) (hi2 : (P.info? ty2).map (·.size) = some cs2.length) :
    (results fn tmps).run P w = .ok (.tuple #[.agg cs.toArray, .agg cs2.toArray]) w := by
  have hp' : tmps[p]?.getD undef = .pointer (some ⟨g, off, none⟩) := by simpa using hp
  have hq' : tmps[q]?.getD undef = .pointer (some ⟨g2, off2, none⟩) := by simpa using hq
  simp [results, h, hp', hq', asAddr, run_loadVar_at w g off ty cs d hg hu hd hi, run_loadVar_at w g2 off2 ty2 cs2 d2 hg2 hu2 hd2 hi2]
set_option maxRecDepth 100000 in
set_option maxHeartbeats 8000000 in
theorem flat_walk (gg : Nat) (X Y Z C1 C2 C3 C4 C5 PT : List Int) (hPT : PT = X ++ Y ++ Z) (lX : X.length = 4) (lY : Y.length = 4) (lZ : Z.length = 4) (lC1 : C1.length = 4) (lC2 : C2.length = 4) (lC3 : C3.length = 4) (lC4 : C4.length = 4) (lC5 : C5.length = 4) (w : World)
    (h1 : ∀ W, Keeps w W → Calls Tryd.prog 90 #[.pointer (some ⟨gg, 0, none⟩), .agg (Z.map (Value.int .u64)).toArray] W fun e w' => e = .returned (.agg (C1.map (Value.int .u64)).toArray) ∧ Keeps W w') (h2 : ∀ W, Keeps w W → Calls Tryd.prog 67 #[.pointer (some ⟨gg, 0, none⟩), .agg (C1.map (Value.int .u64)).toArray, .agg (C1.map (Value.int .u64)).toArray] W fun e w' => e = .returned (.agg (C2.map (Value.int .u64)).toArray) ∧ Keeps W w') (h3 : ∀ W, Keeps w W → Calls Tryd.prog 67 #[.pointer (some ⟨gg, 0, none⟩), .agg (X.map (Value.int .u64)).toArray, .agg (C2.map (Value.int .u64)).toArray] W fun e w' => e = .returned (.agg (C3.map (Value.int .u64)).toArray) ∧ Keeps W w') (h4 : ∀ W, Keeps w W → Calls Tryd.prog 67 #[.pointer (some ⟨gg, 0, none⟩), .agg (C1.map (Value.int .u64)).toArray, .agg (C2.map (Value.int .u64)).toArray] W fun e w' => e = .returned (.agg (C4.map (Value.int .u64)).toArray) ∧ Keeps W w') (h5 : ∀ W, Keeps w W → Calls Tryd.prog 67 #[.pointer (some ⟨gg, 0, none⟩), .agg (Y.map (Value.int .u64)).toArray, .agg (C4.map (Value.int .u64)).toArray] W fun e w' => e = .returned (.agg (C5.map (Value.int .u64)).toArray) ∧ Keeps W w') :
    Calls Tryd.prog 70 #[.pointer (some ⟨gg, 0, none⟩), .agg (PT.map (Value.int .u64)).toArray] w fun e w' => e = .returned (.tuple #[.agg (C3.map (Value.int .u64)).toArray, .agg (C5.map (Value.int .u64)).toArray]) ∧ Keeps w w' := by
  have HC1 := Lib.hid h1; clear h1
  have HC2 := Lib.hid h2; clear h2
  have HC3 := Lib.hid h3; clear h3
  have HC4 := Lib.hid h4; clear h4
  have HC5 := Lib.hid h5; clear h5
  have lPT : PT.length = 12 := by rw [hPT]; exact len3 lX lY lZ
  have HPT := Lib.hid hPT
  clear hPT
  go_enter Tryd.func70, Tryd.ntmps70
  go_upto_region 1 with (fail)
  refine wp_rows3 (fun W hk hra hrb hrc hs => ?_)
  obtain ⟨p, hp⟩ : ∃ p, p = w.heap.size := ⟨_, rfl⟩
  rw [← hp] at hra hrb hrc hs ⊢
  have hkp : w.heap.size ≤ p := by omega
  obtain ⟨Zr, hZr, hrz⟩ : ∃ Zr : List Value, Zr.length = 4 ∧ Row W (p + 1) 0 Zr := ⟨_, rfl, hrb⟩
  obtain ⟨Zs, hZs, hrs⟩ : ∃ Zs : List Value, Zs.length = 4 ∧ Row W (p + 1 + 1) 0 Zs := ⟨_, rfl, hrc⟩
  have HRA := Lib.hid (show Row W p 0 (PT.map (Value.int .u64)) from hra)
  have HKW := Lib.hid hk; have HRres := Lib.hid hrz; have HRres2 := Lib.hid hrs
  clear hp hra hrb hrz hrc hrs hk hs
  have HRX := Lib.hid (row3 lX lY lZ (by have h := HRA.out; rwa [HPT.out] at h)).1
  have HRY := Lib.hid (row3 lX lY lZ (by have h := HRA.out; rwa [HPT.out] at h)).2.1
  have HRZ := Lib.hid (row3 lX lY lZ (by have h := HRA.out; rwa [HPT.out] at h)).2.2
  go_upto_region 2 with (fail)
  go_upto_region 3 with (first | (refine wl HRZ.out lZ (h := ?_)) | (go_at_call 90; refine (HC1.out _ HKW.out).mono ?_; rintro e V1 ⟨rfl, hk1⟩; have HV1 := Lib.hid hk1; clear hk1) | (refine ws (g := V1.heap.size) (olds := zeros4) (Row.new _ _ _ rfl) lC1 rfl (h := ?_); intro W2 hr2 hc2; have HN := Lib.hid hr2; have HB := Lib.hid (show _ ≤ _ from (HV1.out).size); have HK2 := Lib.hid (nm_keeps_chg (nm_keeps_alloc (HV1.out) _) hc2 (HV1.out).size); clear hr2 hc2))
  generalize V1.heap.size = g1 at *
  have hlt_res2_g1 := Nat.lt_of_lt_of_le (HRres2.out.lt (by intro e; rw [e] at hZs; cases hZs)) HB.out
  have HRA := Lib.hid (HRA.out.keeps HK2.out)
  have HRX := Lib.hid (HRX.out.keeps HK2.out)
  have HRY := Lib.hid (HRY.out.keeps HK2.out)
  have HRZ := Lib.hid (HRZ.out.keeps HK2.out)
  have HRres := Lib.hid (HRres.out.keeps HK2.out)
  have HRres2 := Lib.hid (HRres2.out.keeps HK2.out)
  have HKW := Lib.hid (HKW.out.trans HK2.out)
  have HRg1 := HN
  go_upto_region 4 with (first | (refine wl HRg1.out lC1 (h := ?_)) | (refine wl HRg1.out lC1 (h := ?_)) | (go_at_call 67; refine (HC2.out _ HKW.out).mono ?_; rintro e V1 ⟨rfl, hk1⟩; have HV1 := Lib.hid hk1; clear hk1) | (refine ws (g := V1.heap.size) (olds := zeros4) (Row.new _ _ _ rfl) lC2 rfl (h := ?_); intro W2 hr2 hc2; have HN := Lib.hid hr2; have HB := Lib.hid (show _ ≤ _ from (HV1.out).size); have HK2 := Lib.hid (nm_keeps_chg (nm_keeps_alloc (HV1.out) _) hc2 (HV1.out).size); clear hr2 hc2))
  generalize V1.heap.size = g2 at *
  have hlt_g1_g2 := Nat.lt_of_lt_of_le (HRg1.out.lt (map_ne lC1)) HB.out
  have HRA := Lib.hid (HRA.out.keeps HK2.out)
  have HRX := Lib.hid (HRX.out.keeps HK2.out)
  have HRY := Lib.hid (HRY.out.keeps HK2.out)
  have HRZ := Lib.hid (HRZ.out.keeps HK2.out)
  have HRres := Lib.hid (HRres.out.keeps HK2.out)
  have HRres2 := Lib.hid (HRres2.out.keeps HK2.out)
  have HRg1 := Lib.hid (HRg1.out.keeps HK2.out)
  have HKW := Lib.hid (HKW.out.trans HK2.out)
  have HRg2 := HN
  refine wp_region_keep 13 [] [0, 1, 2, 3, 4, 5, 6, 7, 8, 9, 10, 11, 12] (fun _ => zeros4) (by kernel_rfl) (by kernel_rfl) (by intro i hi; cases hi) ?_
  iterate 2 refine kp (h := ?_)
  refine kl (fun wS hS => (HRX.out.keeps hS)) lX (h := ?_)
  refine kl (fun wS hS => (HRg2.out.keeps hS)) lC2 (h := ?_)
  refine kc (hc := by exact fun wS hS => HC3.out wS (HKW.out.trans hS)) (h := ?_)
  iterate 2 refine kp (h := ?_)
  refine kl (fun wS hS => (HRY.out.keeps hS)) lY (h := ?_)
  refine kp (h := ?_)
  refine kl (fun wS hS => (HRg1.out.keeps hS)) lC1 (h := ?_)
  refine kl (fun wS hS => (HRg2.out.keeps hS)) lC2 (h := ?_)
  refine kc (hc := by exact fun wS hS => HC4.out wS (HKW.out.trans hS)) (h := ?_)
  refine kc (hc := by exact fun wS hS => HC5.out wS (HKW.out.trans hS)) (h := ?_)
  refine keep_nil ?_
  intro GG V1 hk1 hG
  simp only [putsA, dstAt, ptrV, kD, kG, kP, Option.bind_some]
  clear hG
  have HV1 := Lib.hid hk1; clear hk1
  go_wp2_with (first | (refine ws (HRres.out.keeps HV1.out) lC3 (by rw [hZr]) (h := ?_); intro W2 hr2 hc2; have HN1 := Lib.hid hr2; have HC1 := Lib.hid hc2; clear hr2 hc2) | (refine ws ((HRres2.out.keeps HV1.out).chg HC1.out (by omega)) lC5 (by rw [hZs]) (h := ?_); intro W3 hr2 hc2; have HN2 := Lib.hid hr2; have HC2 := Lib.hid hc2; clear hr2 hc2))
  exact bodyPost_ret (results_two (p := 4) (q := 5) (ty := 70) (ty2 := 70) rfl _ _ (p + 1) 0 (p + 1 + 1) 0 _ _ _ _ rfl (HN1.out.chg HC2.out (by omega)) Tryd.underlying70 rfl (by rw [List.length_map, lC3]; exact sz_cnum) rfl HN2.out Tryd.underlying70 rfl (by rw [List.length_map, lC5]; exact sz_cnum)) rfl ⟨rfl, nm_keeps_chg (nm_keeps_chg (HKW.out.trans HV1.out) HC1.out (by omega)) HC2.out (by omega)⟩
theorem pinv_any (g : Nat) (x : Nat) (hx : x < PVn) (w : World) (hr : Row w g 0 gCells) :
    Calls Tryd.prog 90 #[.pointer (some ⟨g, 0, none⟩), .agg ((nw x).map (Value.int .u64)).toArray] w fun e w' => e = .returned (.agg ((nw (fi x)).map (Value.int .u64)).toArray) ∧ Keeps w w' := by
  have := inverse_any g 0 PVn _ fld_pn x (Nat.lt_trans hx (by decide)) w (gc_p hr)
  rwa [← fpow_eq (by decide : PVn - 2 < 2 ^ 256)] at this
theorem flat_any (g : Nat) (a : J) (h : a.ok) (w : World) (hr : Row w g 0 gCells) :
    Calls Tryd.prog 70 #[.pointer (some ⟨g, 0, none⟩), .agg ((ptW a).map (Value.int .u64)).toArray] w fun e w' => e = .returned (.tuple #[.agg ((nw (flatJ a).1).map (Value.int .u64)).toArray, .agg ((nw (flatJ a).2).map (Value.int .u64)).toArray]) ∧ Keeps w w' := by
  have hi : fi a.z < PVn := fpow_lt _ _ (by decide)
  exact flat_walk g _ _ _ (nw (fi a.z)) (nw (fm (fi a.z) (fi a.z))) _ (nw (fm (fi a.z) (fm (fi a.z) (fi a.z)))) _ (ptW a) rfl rfl rfl rfl rfl rfl rfl rfl rfl w
    (fun W hk => pinv_any g a.z h.2.2 W (hr.keeps hk)) (fun W hk => pmul_any g _ _ hi hi W (hr.keeps hk)) (fun W hk => pmul_any g _ _ h.1 (fm_lt _ _) W (hr.keeps hk)) (fun W hk => pmul_any g _ _ hi (fm_lt _ _) W (hr.keeps hk)) (fun W hk => pmul_any g _ _ h.2.1 (fm_lt _ _) W (hr.keeps hk))
end Go.Proofs.YtlofddoojkeakaaDoor
