/- The reference's Flat. No condition. -/
import Derived.Test.YtajipagpdphejaaGD2
import Derived.Test.YtajipagpdphejaaGD4
namespace Go.Proofs.Ytajipagpdphejaa
set_option linter.unusedVariables false
set_option linter.unusedSimpArgs false
open Go Go.RowKit Cv

set_option maxRecDepth 100000 in
set_option maxHeartbeats 8000000 in
theorem rflat_walk (X Y Z M W9 C3 C5 PT : List Int) (hPT : PT = X ++ Y ++ Z) (lX : X.length = 8) (lY : Y.length = 8) (lZ : Z.length = 8) (lM : M.length = 8) (lW9 : W9.length = 8) (lC3 : C3.length = 8) (lC5 : C5.length = 8) (w : World)
    (hP : ∀ W, Keeps w W → Calls Try.prog 38 #[] W fun e w' => e = .returned (.agg (M.map (Value.int .u32)).toArray) ∧ Keeps W w')
    (hI : ∀ W, Keeps w W → Calls Try.prog 47 #[.agg (Z.map (Value.int .u32)).toArray, .agg (M.map (Value.int .u32)).toArray] W fun e w' => e = .returned (.agg (W9.map (Value.int .u32)).toArray) ∧ Keeps W w')
    (hX : ∀ W, Keeps w W → Calls Try.prog 49 #[.agg (X.map (Value.int .u32)).toArray, .agg (W9.map (Value.int .u32)).toArray, .agg (M.map (Value.int .u32)).toArray] W fun e w' => e = .returned (.agg (C3.map (Value.int .u32)).toArray) ∧ Keeps W w')
    (hY : ∀ W, Keeps w W → Calls Try.prog 49 #[.agg (Y.map (Value.int .u32)).toArray, .agg (W9.map (Value.int .u32)).toArray, .agg (M.map (Value.int .u32)).toArray] W fun e w' => e = .returned (.agg (C5.map (Value.int .u32)).toArray) ∧ Keeps W w') :
    Calls Try.prog 51 #[.agg (PT.map (Value.int .u32)).toArray] w fun e w' => e = .returned (.tuple #[.agg (C3.map (Value.int .u32)).toArray, .agg (C5.map (Value.int .u32)).toArray]) ∧ Keeps w w' := by
  have HP := Lib.hid hP; have HI := Lib.hid hI; have HX := Lib.hid hX; have HY := Lib.hid hY
  clear hP hI hX hY
  have lPT : PT.length = 24 := by rw [hPT]; exact len3 lX lY lZ
  have HPT := Lib.hid hPT
  clear hPT
  go_enter Try.func51, Try.ntmps51
  go_upto_region 1 with (fail)
  refine wp_rows3 (fun W hk hra hrb hrc hs => ?_)
  obtain ⟨p, hp⟩ : ∃ p, p = w.heap.size := ⟨_, rfl⟩
  rw [← hp] at hra hrb hrc hs ⊢
  have hkp : w.heap.size ≤ p := by omega
  obtain ⟨Zr, hZr, hrz⟩ : ∃ Zr : List Value, Zr.length = 8 ∧ Row W (p + 1) 0 Zr := ⟨_, rfl, hrb⟩
  obtain ⟨Zs, hZs, hrs⟩ : ∃ Zs : List Value, Zs.length = 8 ∧ Row W (p + 1 + 1) 0 Zs := ⟨_, rfl, hrc⟩
  have HRA := Lib.hid (show Row W p 0 (PT.map (Value.int .u32)) from hra)
  have HKW := Lib.hid hk; have HRres := Lib.hid hrz; have HRres2 := Lib.hid hrs
  clear hp hra hrb hrz hrc hrs hk hs
  have HRX := Lib.hid (row3 lX lY lZ (by have h := HRA.out; rwa [HPT.out] at h)).1
  have HRY := Lib.hid (row3 lX lY lZ (by have h := HRA.out; rwa [HPT.out] at h)).2.1
  have HRZ := Lib.hid (row3 lX lY lZ (by have h := HRA.out; rwa [HPT.out] at h)).2.2
  refine wp_region_keep 5 [4] [0, 1, 2, 3] (fun _ => zeros8) (by kernel_rfl) (by kernel_rfl) (by intro i hi; simp only [List.mem_cons, List.not_mem_nil, or_false] at hi; (first | (rcases hi with rfl | rfl) | subst hi) <;> exact ⟨_, rfl, alloc_rnum rfl rfl⟩) ?_
  refine keep_pure (o := ?_) (v := ?_) ?_ ?_ ?_ ?_
  rotate_left 2
  focus (simp only [List.getElem?_toArray, List.getElem?_cons_succ, List.getElem?_cons_zero]; exact rfl)
  focus rfl
  focus ((intro wS hS; go_simp) <;> with_reducible rfl)
  try simp only [Act.put, List.setIfInBounds_toArray, List.set_cons_zero, List.set_cons_succ]
  refine keep_pure (o := ?_) (v := ?_) ?_ ?_ ?_ ?_
  rotate_left 2
  focus (simp only [List.getElem?_toArray, List.getElem?_cons_succ, List.getElem?_cons_zero]; exact rfl)
  focus rfl
  focus (intro wS hS; (refine cu_run_load 37 (.tmp 5) ?_ p 16 ?_ (Z.map (Value.int .u32)) _ (HRZ.out.keeps hS) Try.underlying37 rfl (by rw [List.length_map, lZ]; exact sz_rnum)) <;> rfl)
  try simp only [Act.put, List.setIfInBounds_toArray, List.set_cons_zero, List.set_cons_succ]
  refine keep_call (o := ?_) (f := ?_) (args := ?_) (v := ?_) ?_ ?_ ?_ ?_ ?_
  rotate_left 4
  focus (simp only [List.getElem?_toArray, List.getElem?_cons_succ, List.getElem?_cons_zero]; exact rfl)
  focus rfl
  focus (intro wS; go_simp; refine ⟨?_, ?_⟩ <;> with_reducible rfl)
  focus (intro wS hS; exact HP.out wS (HKW.out.trans hS))
  try simp only [Act.put, List.setIfInBounds_toArray, List.set_cons_zero, List.set_cons_succ]
  refine keep_call (o := ?_) (f := ?_) (args := ?_) (v := ?_) ?_ ?_ ?_ ?_ ?_
  rotate_left 4
  focus (simp only [List.getElem?_toArray, List.getElem?_cons_succ, List.getElem?_cons_zero]; exact rfl)
  focus rfl
  focus (intro wS; go_simp; refine ⟨?_, ?_⟩ <;> with_reducible rfl)
  focus (intro wS hS; exact HI.out wS (HKW.out.trans hS))
  try simp only [Act.put, List.setIfInBounds_toArray, List.set_cons_zero, List.set_cons_succ]
  refine keep_nil ?_
  intro GG V1 hk1 hG
  obtain ⟨ha4, hz4, hd4⟩ := hG 4 (by simp)
  clear hd4
  simp only [putsA, dstAt, Act.put, ptrV, List.drop_succ_cons, List.drop_zero, List.getElem?_toArray, List.getElem?_cons_succ, List.getElem?_cons_zero, Option.bind_some, List.setIfInBounds_toArray, List.set_cons_zero, List.set_cons_succ]
  generalize GG 4 = g1 at *
  clear hG
  have HZ4 := Lib.hid hz4; have HB4 := Lib.hid (show _ ≤ _ from ha4)
  clear hz4 ha4
  have HV1 := Lib.hid hk1; clear hk1
  go_upto_region 2 with (first | (refine wpList_store_row rfl 37 (.tmp 4) (.tmp 8) rfl _ 0 rfl zeros8 (W9.map (Value.int .u32)) rfl HZ4.out (by rw [List.length_map, lW9]; rfl) (by rw [List.length_map, lW9]; exact sz_rnum) (int_oneCell _) ?_; intro W2 hr2 hc2; have HN1 := Lib.hid hr2; have HC1 := Lib.hid hc2; clear hr2 hc2))
  have HN := HN1; have HB := HB4
  have HK2 := Lib.hid (nm_keeps_chg HV1.out HC1.out HB.out)
  have hlt_res2_g1 := Nat.lt_of_lt_of_le (HRres2.out.lt (by intro e; rw [e] at hZs; cases hZs)) HB.out
  have HRA := Lib.hid (HRA.out.keeps HK2.out)
  have HRX := Lib.hid (HRX.out.keeps HK2.out)
  have HRY := Lib.hid (HRY.out.keeps HK2.out)
  have HRZ := Lib.hid (HRZ.out.keeps HK2.out)
  have HRres := Lib.hid (HRres.out.keeps HK2.out)
  have HRres2 := Lib.hid (HRres2.out.keeps HK2.out)
  have HKW := Lib.hid (HKW.out.trans HK2.out)
  have HRw9 := HN
  refine wp_region_keep 10 [] [0, 1, 2, 3, 4, 5, 6, 7, 8, 9] (fun _ => zeros8) (by kernel_rfl) (by kernel_rfl) (by intro i hi; cases hi) ?_
  refine keep_pure (o := ?_) (v := ?_) ?_ ?_ ?_ ?_
  rotate_left 2
  focus (simp only [List.getElem?_toArray, List.getElem?_cons_succ, List.getElem?_cons_zero]; exact rfl)
  focus rfl
  focus ((intro wS hS; go_simp) <;> with_reducible rfl)
  try simp only [Act.put, List.setIfInBounds_toArray, List.set_cons_zero, List.set_cons_succ]
  refine keep_pure (o := ?_) (v := ?_) ?_ ?_ ?_ ?_
  rotate_left 2
  focus (simp only [List.getElem?_toArray, List.getElem?_cons_succ, List.getElem?_cons_zero]; exact rfl)
  focus rfl
  focus (intro wS hS; (refine cu_run_load 37 (.tmp 9) ?_ p 0 ?_ (X.map (Value.int .u32)) _ (HRX.out.keeps hS) Try.underlying37 rfl (by rw [List.length_map, lX]; exact sz_rnum)) <;> rfl)
  try simp only [Act.put, List.setIfInBounds_toArray, List.set_cons_zero, List.set_cons_succ]
  refine keep_pure (o := ?_) (v := ?_) ?_ ?_ ?_ ?_
  rotate_left 2
  focus (simp only [List.getElem?_toArray, List.getElem?_cons_succ, List.getElem?_cons_zero]; exact rfl)
  focus rfl
  focus (intro wS hS; (refine cu_run_load 37 (.tmp 4) ?_ g1 0 ?_ (W9.map (Value.int .u32)) _ (HRw9.out.keeps hS) Try.underlying37 rfl (by rw [List.length_map, lW9]; exact sz_rnum)) <;> rfl)
  try simp only [Act.put, List.setIfInBounds_toArray, List.set_cons_zero, List.set_cons_succ]
  refine keep_call (o := ?_) (f := ?_) (args := ?_) (v := ?_) ?_ ?_ ?_ ?_ ?_
  rotate_left 4
  focus (simp only [List.getElem?_toArray, List.getElem?_cons_succ, List.getElem?_cons_zero]; exact rfl)
  focus rfl
  focus (intro wS; go_simp; refine ⟨?_, ?_⟩ <;> with_reducible rfl)
  focus (intro wS hS; exact HP.out wS (HKW.out.trans hS))
  try simp only [Act.put, List.setIfInBounds_toArray, List.set_cons_zero, List.set_cons_succ]
  refine keep_call (o := ?_) (f := ?_) (args := ?_) (v := ?_) ?_ ?_ ?_ ?_ ?_
  rotate_left 4
  focus (simp only [List.getElem?_toArray, List.getElem?_cons_succ, List.getElem?_cons_zero]; exact rfl)
  focus rfl
  focus (intro wS; go_simp; refine ⟨?_, ?_⟩ <;> with_reducible rfl)
  focus (intro wS hS; exact HX.out wS (HKW.out.trans hS))
  try simp only [Act.put, List.setIfInBounds_toArray, List.set_cons_zero, List.set_cons_succ]
  refine keep_pure (o := ?_) (v := ?_) ?_ ?_ ?_ ?_
  rotate_left 2
  focus (simp only [List.getElem?_toArray, List.getElem?_cons_succ, List.getElem?_cons_zero]; exact rfl)
  focus rfl
  focus ((intro wS hS; go_simp) <;> with_reducible rfl)
  try simp only [Act.put, List.setIfInBounds_toArray, List.set_cons_zero, List.set_cons_succ]
  refine keep_pure (o := ?_) (v := ?_) ?_ ?_ ?_ ?_
  rotate_left 2
  focus (simp only [List.getElem?_toArray, List.getElem?_cons_succ, List.getElem?_cons_zero]; exact rfl)
  focus rfl
  focus (intro wS hS; (refine cu_run_load 37 (.tmp 14) ?_ p 8 ?_ (Y.map (Value.int .u32)) _ (HRY.out.keeps hS) Try.underlying37 rfl (by rw [List.length_map, lY]; exact sz_rnum)) <;> rfl)
  try simp only [Act.put, List.setIfInBounds_toArray, List.set_cons_zero, List.set_cons_succ]
  refine keep_pure (o := ?_) (v := ?_) ?_ ?_ ?_ ?_
  rotate_left 2
  focus (simp only [List.getElem?_toArray, List.getElem?_cons_succ, List.getElem?_cons_zero]; exact rfl)
  focus rfl
  focus (intro wS hS; (refine cu_run_load 37 (.tmp 4) ?_ g1 0 ?_ (W9.map (Value.int .u32)) _ (HRw9.out.keeps hS) Try.underlying37 rfl (by rw [List.length_map, lW9]; exact sz_rnum)) <;> rfl)
  try simp only [Act.put, List.setIfInBounds_toArray, List.set_cons_zero, List.set_cons_succ]
  refine keep_call (o := ?_) (f := ?_) (args := ?_) (v := ?_) ?_ ?_ ?_ ?_ ?_
  rotate_left 4
  focus (simp only [List.getElem?_toArray, List.getElem?_cons_succ, List.getElem?_cons_zero]; exact rfl)
  focus rfl
  focus (intro wS; go_simp; refine ⟨?_, ?_⟩ <;> with_reducible rfl)
  focus (intro wS hS; exact HP.out wS (HKW.out.trans hS))
  try simp only [Act.put, List.setIfInBounds_toArray, List.set_cons_zero, List.set_cons_succ]
  refine keep_call (o := ?_) (f := ?_) (args := ?_) (v := ?_) ?_ ?_ ?_ ?_ ?_
  rotate_left 4
  focus (simp only [List.getElem?_toArray, List.getElem?_cons_succ, List.getElem?_cons_zero]; exact rfl)
  focus rfl
  focus (intro wS; go_simp; refine ⟨?_, ?_⟩ <;> with_reducible rfl)
  focus (intro wS hS; exact HY.out wS (HKW.out.trans hS))
  try simp only [Act.put, List.setIfInBounds_toArray, List.set_cons_zero, List.set_cons_succ]
  refine keep_nil ?_
  intro GG V1 hk1 hG
  simp only [putsA, dstAt, Act.put, ptrV, List.drop_succ_cons, List.drop_zero, List.getElem?_toArray, List.getElem?_cons_succ, List.getElem?_cons_zero, Option.bind_some, List.setIfInBounds_toArray, List.set_cons_zero, List.set_cons_succ]
  clear hG
  have HV1 := Lib.hid hk1; clear hk1
  go_wp2_with (first | (refine wpList_store_row rfl 37 (.tmp 2) (.tmp 13) rfl _ 0 rfl Zr (C3.map (Value.int .u32)) rfl (HRres.out.keeps HV1.out) (by rw [List.length_map, lC3, hZr]) (by rw [List.length_map, lC3]; exact sz_rnum) (int_oneCell _) ?_; intro W2 hr2 hc2; have HN1 := Lib.hid hr2; have HC1 := Lib.hid hc2; clear hr2 hc2) | (refine wpList_store_row rfl 37 (.tmp 3) (.tmp 18) rfl _ 0 rfl Zs (C5.map (Value.int .u32)) rfl ((HRres2.out.keeps HV1.out).chg HC1.out (by omega)) (by rw [List.length_map, lC5, hZs]) (by rw [List.length_map, lC5]; exact sz_rnum) (int_oneCell _) ?_; intro W3 hr2 hc2; have HN2 := Lib.hid hr2; have HC2 := Lib.hid hc2; clear hr2 hc2))
  exact bodyPost_ret (results_two (p := 2) (q := 3) (ty := 37) (ty2 := 37) rfl _ _ (p + 1) 0 (p + 1 + 1) 0 _ _ _ _ rfl (HN1.out.chg HC2.out (by omega)) Try.underlying37 rfl (by rw [List.length_map, lC3]; exact sz_rnum) rfl HN2.out Try.underlying37 rfl (by rw [List.length_map, lC5]; exact sz_rnum)) rfl ⟨rfl, nm_keeps_chg (nm_keeps_chg (HKW.out.trans HV1.out) HC1.out (by omega)) HC2.out (by omega)⟩
theorem rpinv_any (x : Nat) (hx : x < PVn) (w : World) :
    Calls Try.prog 47 #[.agg ((nw8 x).map (Value.int .u32)).toArray, .agg ((nw8 PVn).map (Value.int .u32)).toArray] w fun e w' => e = .returned (.agg ((nw8 (fi x)).map (Value.int .u32)).toArray) ∧ Keeps w w' := by
  have := rinverse_any PVn rmod_pn x (Nat.lt_trans hx (by decide)) w
  rwa [← fpow_eq (by decide : PVn - 2 < 2 ^ 256)] at this
theorem rflat_any (a : J) (h : a.ok) (w : World) :
    Calls Try.prog 51 #[.agg ((ptR a).map (Value.int .u32)).toArray] w fun e w' => e = .returned (.tuple #[.agg ((nw8 (flatR a).1).map (Value.int .u32)).toArray, .agg ((nw8 (flatR a).2).map (Value.int .u32)).toArray]) ∧ Keeps w w' := by
  have hi : fi a.z < PVn := fpow_lt _ _ (by decide)
  exact rflat_walk _ _ _ (nw8 PVn) (nw8 (fi a.z)) _ _ (ptR a) rfl (nw8_len _) (nw8_len _) (nw8_len _) (nw8_len _) (nw8_len _) (nw8_len _) (nw8_len _) w
    (fun W _ => rpn_any W) (fun W hk => rpinv_any a.z h.2.2 W) (fun W hk => rpmul_any _ _ h.1 hi W) (fun W hk => rpmul_any _ _ h.2.1 hi W)
end Go.Proofs.Ytajipagpdphejaa
