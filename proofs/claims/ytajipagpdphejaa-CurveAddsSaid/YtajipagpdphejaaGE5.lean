/- The reference's AddPublic. No condition. -/
import Derived.Test.YtajipagpdphejaaGE4
namespace Go.Proofs.Ytajipagpdphejaa
set_option linter.unusedVariables false
set_option linter.unusedSimpArgs false
open Go Go.RowKit Cv

set_option maxRecDepth 100000 in
set_option maxHeartbeats 8000000 in
theorem raddpub_walk (PB B T NN UP GJ TM S1 S2 S3 SM RES : List Int) (lt ub z : Bool) (er : Int) (lP : PB.length = 33) (lB : B.length = 32) (lT : T.length = 8) (lU : UP.length = 24) (lS1 : S1.length = 8) (lS2 : S2.length = 8) (lS3 : S3.length = 8) (hSM : SM = S1 ++ S2 ++ S3) (lR : RES.length = 33) (w : World)
    (hOf : ∀ v W, Rd W 1 v 32 (B.map (Value.int .u8)) → Calls Try.prog 24 #[v] W fun e w' => e = .returned (.agg (T.map (Value.int .u32)).toArray) ∧ Keeps W w')
    (hN : ∀ W, Calls Try.prog 27 #[] W fun e w' => e = .returned (.agg (NN.map (Value.int .u32)).toArray) ∧ Keeps W w')
    (hLs : ∀ W, Calls Try.prog 25 #[.agg (T.map (Value.int .u32)).toArray, .agg (NN.map (Value.int .u32)).toArray] W fun e w' => e = .returned (.bool lt) ∧ Keeps W w')
    (hUnp : ∀ v W, Rd W 1 v 33 (PB.map (Value.int .u8)) → Calls Try.prog 15 #[v] W fun e w' => e = .returned (.tuple #[.agg (UP.map (Value.int .u32)).toArray, .bool ub]) ∧ Keeps W w')
    (hcase : (lt = false ∧ RES = zeroL33 ∧ er = 1) ∨ (lt = true ∧ ub = false ∧ RES = zeroL33 ∧ er = 3) ∨ (lt = true ∧ ub = true ∧
      (∀ W, Calls Try.prog 36 #[] W fun e w' => e = .returned (.agg (GJ.map (Value.int .u32)).toArray) ∧ Keeps W w') ∧
      (∀ W, Calls Try.prog 35 #[.agg (T.map (Value.int .u32)).toArray, .agg (GJ.map (Value.int .u32)).toArray] W fun e w' => e = .returned (.agg (TM.map (Value.int .u32)).toArray) ∧ Keeps W w') ∧
      (∀ W, Calls Try.prog 48 #[.agg (UP.map (Value.int .u32)).toArray, .agg (TM.map (Value.int .u32)).toArray] W fun e w' => e = .returned (.agg (SM.map (Value.int .u32)).toArray) ∧ Keeps W w') ∧
      (∀ W, (Op.equalIn 10000 37 (.agg (S3.map (Value.int .u32)).toArray) (.agg rz8)).run Try.prog W = .ok z W) ∧
      ((z = true ∧ RES = zeroL33 ∧ er = 7) ∨ (z = false ∧ er = 0 ∧ ∀ W, Calls Try.prog 34 #[.agg (SM.map (Value.int .u32)).toArray] W fun e w' => e = .returned (.agg (RES.map (Value.int .u8)).toArray) ∧ Keeps W w')))) :
    Calls Try.prog 22 #[.agg (PB.map (Value.int .u8)).toArray, .agg (B.map (Value.int .u8)).toArray] w fun e w' => e = .returned (.tuple #[.agg (RES.map (Value.int .u8)).toArray, .int .i64 er]) ∧ Keeps w w' := by
  have lS : SM.length = 24 := by rw [hSM]; exact len3 lS1 lS2 lS3
  have HSM := Lib.hid hSM
  have HOB := Lib.hid hOf; have HNN := Lib.hid hN; have HLS := Lib.hid hLs; have HUNP := Lib.hid hUnp; have HCASE := Lib.hid hcase
  clear hOf hN hLs hUnp hcase hSM
  go_enter Try.func22, Try.ntmps22
  go_upto_region 1 with (fail)
  refine wp_rows3 (fun W hk hra hrb hrc hs => ?_)
  obtain ⟨p, hp⟩ : ∃ p, p = w.heap.size := ⟨_, rfl⟩
  rw [← hp] at hra hrb hrc hs ⊢
  have hkp : w.heap.size ≤ p := by omega
  obtain ⟨Zr, hZr, hrz⟩ : ∃ Zr : List Value, Zr.length = 33 ∧ Row W (p + 1 + 1) 0 Zr := ⟨_, rfl, hrc⟩
  have HRP := Lib.hid (show Row W p 0 (PB.map (Value.int .u8)) from hra); have HRB := Lib.hid (show Row W (p + 1) 0 (B.map (Value.int .u8)) from hrb); have HKW := Lib.hid hk; have HRres := Lib.hid hrz
  have hpW : p + 1 < W.heap.size := by omega
  clear hp hk hra hrb hrc hrz hs
  go_upto_region 2 with (first | (go_at_call 24; refine (HOB.out _ _ (Rd.of_row HRB.out (by simp [lB]) hpW (by omega) (by unfold maxLen; omega))).mono ?_; rintro e W4 ⟨rfl, hk2⟩; have HK4 := Lib.hid hk2; clear hk2) | (refine wpList_store_row rfl 37 (.tmp 6) (.tmp 11) rfl W4.heap.size 0 rfl zeros8 (T.map (Value.int .u32)) rfl (Row.new _ _ _ rfl) (by rw [List.length_map, lT]; rfl) (by rw [List.length_map, lT]; exact sz_rnum) (int_oneCell _) ?_; intro W5 hr2 hc2; have HRT := Lib.hid hr2; have HK5 := Lib.hid (nm_keeps_chg (nm_keeps_alloc HK4.out _) hc2 HK4.out.size); clear hr2 hc2))
  generalize W4.heap.size = r at *
  have HRres := Lib.hid (HRres.out.keeps HK5.out); have HRP := Lib.hid (HRP.out.keeps HK5.out)
  have HKW := Lib.hid (HKW.out.trans HK5.out)
  have hpW5 : p + 1 < W5.heap.size := Nat.lt_of_lt_of_le hpW HK5.out.size
  clear HK5 HK4 HRB
  refine wp_region_keep 3 [] [0, 1, 2] (fun _ => []) (by kernel_rfl) (by kernel_rfl) (by intro i hi; cases hi) ?_
  refine keep_pure (o := ?_) (v := ?_) ?_ ?_ ?_ ?_
  rotate_left 2
  focus (simp only [List.getElem?_toArray, List.getElem?_cons_succ, List.getElem?_cons_zero]; exact rfl)
  focus rfl
  focus (intro wS hS; (refine cu_run_load 37 (.tmp 6) ?_ r 0 ?_ (T.map (Value.int .u32)) _ (HRT.out.keeps hS) Try.underlying37 rfl (by rw [List.length_map, lT]; exact sz_rnum)) <;> rfl)
  try simp only [Act.put, List.setIfInBounds_toArray, List.set_cons_zero, List.set_cons_succ]
  refine keep_call (o := ?_) (f := ?_) (args := ?_) (v := ?_) ?_ ?_ ?_ ?_ ?_
  rotate_left 4
  focus (simp only [List.getElem?_toArray, List.getElem?_cons_succ, List.getElem?_cons_zero]; exact rfl)
  focus rfl
  focus (intro wS; go_simp; refine ⟨?_, ?_⟩ <;> with_reducible rfl)
  focus (intro wS hS; exact HNN.out wS)
  try simp only [Act.put, List.setIfInBounds_toArray, List.set_cons_zero, List.set_cons_succ]
  refine keep_call (o := ?_) (f := ?_) (args := ?_) (v := ?_) ?_ ?_ ?_ ?_ ?_
  rotate_left 4
  focus (simp only [List.getElem?_toArray, List.getElem?_cons_succ, List.getElem?_cons_zero]; exact rfl)
  focus rfl
  focus (intro wS; go_simp; refine ⟨?_, ?_⟩ <;> with_reducible rfl)
  focus (intro wS hS; exact HLS.out wS)
  try simp only [Act.put, List.setIfInBounds_toArray, List.set_cons_zero, List.set_cons_succ]
  refine keep_nil ?_
  intro GG V4 hk1 hG
  clear hG
  simp only [putsA, dstAt, Act.put, ptrV, List.drop_succ_cons, List.drop_zero, List.getElem?_toArray, List.getElem?_cons_succ, List.getElem?_cons_zero, Option.bind_some, List.setIfInBounds_toArray, List.set_cons_zero, List.set_cons_succ]
  have HRres := Lib.hid (HRres.out.keeps hk1); have HRP := Lib.hid (HRP.out.keeps hk1); have HRT := Lib.hid (HRT.out.keeps hk1)
  have HKW := Lib.hid (HKW.out.trans hk1)
  have hpV4 : p + 1 < V4.heap.size := Nat.lt_of_lt_of_le hpW5 hk1.size
  clear hk1
  rcases HCASE.out with ⟨rfl, rfl, rfl⟩ | hrest
  · go_wp2_with (refine wpList_store_row rfl 25 (.tmp 4) (.tmp 16) rfl _ 0 rfl Zr (zeroL33.map (Value.int .u8)) rfl HRres.out (by rw [hZr]; rfl) sz_b33 (int_oneCell _) ?_; intro W8 hr2 hc2; have HN := Lib.hid hr2; have HC := Lib.hid hc2; clear hr2 hc2)
    exact bodyPost_ret (results_cell_tmpB (p := 4) (t := 5) (ty := 25) rfl _ _ (p + 1 + 1) 0 _ _ _ rfl rfl HN.out Try.underlying25 rfl sz_b33) rfl ⟨rfl, nm_keeps_chg HKW.out HC.out (by omega)⟩
  · obtain rfl : lt = true := by rcases hrest with h | h <;> exact h.1
    have HREST := Lib.hid hrest
    clear hrest HCASE
    go_upto_region 5 with (first | (go_at_call 15; refine (HUNP.out _ _ (Rd.of_row HRP.out (by simp [lP]) (by omega) (by omega) (by unfold maxLen; omega))).mono ?_; rintro e W6 ⟨rfl, hk2⟩; have HK6 := Lib.hid hk2; clear hk2) | (refine wpList_store_row rfl 39 (.tmp 7) (.tmp 20) rfl W6.heap.size 0 rfl zeros24 (UP.map (Value.int .u32)) rfl (Row.new _ _ _ rfl) (by rw [List.length_map, lU]; rfl) (by rw [List.length_map, lU]; exact sz_rpt) (int_oneCell _) ?_; intro W7 hr2 hc2; have HRU := Lib.hid hr2; have HK7 := Lib.hid (nm_keeps_chg (nm_keeps_alloc HK6.out _) hc2 HK6.out.size); clear hr2 hc2))
    generalize W6.heap.size = u at *
    have HRres := Lib.hid (HRres.out.keeps HK7.out); have HRT := Lib.hid (HRT.out.keeps HK7.out)
    have HKW := Lib.hid (HKW.out.trans HK7.out)
    clear HK7 HK6 HRP
    rcases HREST.out with ⟨_, rfl, rfl, rfl⟩ | ⟨_, rfl, hBase, hTim, hAdd, hInf, hc2⟩
    · go_wp2_with (refine wpList_store_row rfl 25 (.tmp 4) (.tmp 24) rfl _ 0 rfl Zr (zeroL33.map (Value.int .u8)) rfl HRres.out (by rw [hZr]; rfl) sz_b33 (int_oneCell _) ?_; intro W8 hr2 hc2; have HN := Lib.hid hr2; have HC := Lib.hid hc2; clear hr2 hc2)
      exact bodyPost_ret (results_cell_tmpB (p := 4) (t := 5) (ty := 25) rfl _ _ (p + 1 + 1) 0 _ _ _ rfl rfl HN.out Try.underlying25 rfl sz_b33) rfl ⟨rfl, nm_keeps_chg HKW.out HC.out (by omega)⟩
    · have HBA := Lib.hid hBase; have HTI := Lib.hid hTim; have HAD := Lib.hid hAdd; have HIN := Lib.hid hInf; have HC2 := Lib.hid hc2
      clear hBase hTim hAdd hInf hc2 HREST
      go_upto_region 7 with (fail)
      refine wp_region_keep 6 [5] [0, 1, 2, 3, 4] (fun _ => zeros24) (by kernel_rfl) (by kernel_rfl) (by intro i hi; simp only [List.mem_cons, List.not_mem_nil, or_false] at hi; (first | (rcases hi with rfl | rfl) | subst hi) <;> exact ⟨_, rfl, alloc_rpt rfl rfl⟩) ?_
      refine keep_pure (o := ?_) (v := ?_) ?_ ?_ ?_ ?_
      rotate_left 2
      focus (simp only [List.getElem?_toArray, List.getElem?_cons_succ, List.getElem?_cons_zero]; exact rfl)
      focus rfl
      focus (intro wS hS; (refine cu_run_load 39 (.tmp 7) ?_ u 0 ?_ (UP.map (Value.int .u32)) _ (HRU.out.keeps hS) Try.underlying39 rfl (by rw [List.length_map, lU]; exact sz_rpt)) <;> rfl)
      try simp only [Act.put, List.setIfInBounds_toArray, List.set_cons_zero, List.set_cons_succ]
      refine keep_pure (o := ?_) (v := ?_) ?_ ?_ ?_ ?_
      rotate_left 2
      focus (simp only [List.getElem?_toArray, List.getElem?_cons_succ, List.getElem?_cons_zero]; exact rfl)
      focus rfl
      focus (intro wS hS; (refine cu_run_load 37 (.tmp 6) ?_ r 0 ?_ (T.map (Value.int .u32)) _ (HRT.out.keeps hS) Try.underlying37 rfl (by rw [List.length_map, lT]; exact sz_rnum)) <;> rfl)
      try simp only [Act.put, List.setIfInBounds_toArray, List.set_cons_zero, List.set_cons_succ]
      refine keep_call (o := ?_) (f := ?_) (args := ?_) (v := ?_) ?_ ?_ ?_ ?_ ?_
      rotate_left 4
      focus (simp only [List.getElem?_toArray, List.getElem?_cons_succ, List.getElem?_cons_zero]; exact rfl)
      focus rfl
      focus (intro wS; go_simp; refine ⟨?_, ?_⟩ <;> with_reducible rfl)
      focus (intro wS hS; exact HBA.out wS)
      try simp only [Act.put, List.setIfInBounds_toArray, List.set_cons_zero, List.set_cons_succ]
      refine keep_call (o := ?_) (f := ?_) (args := ?_) (v := ?_) ?_ ?_ ?_ ?_ ?_
      rotate_left 4
      focus (simp only [List.getElem?_toArray, List.getElem?_cons_succ, List.getElem?_cons_zero]; exact rfl)
      focus rfl
      focus (intro wS; go_simp; refine ⟨?_, ?_⟩ <;> with_reducible rfl)
      focus (intro wS hS; exact HTI.out wS)
      try simp only [Act.put, List.setIfInBounds_toArray, List.set_cons_zero, List.set_cons_succ]
      refine keep_call (o := ?_) (f := ?_) (args := ?_) (v := ?_) ?_ ?_ ?_ ?_ ?_
      rotate_left 4
      focus (simp only [List.getElem?_toArray, List.getElem?_cons_succ, List.getElem?_cons_zero]; exact rfl)
      focus rfl
      focus (intro wS; go_simp; refine ⟨?_, ?_⟩ <;> with_reducible rfl)
      focus (intro wS hS; exact HAD.out wS)
      try simp only [Act.put, List.setIfInBounds_toArray, List.set_cons_zero, List.set_cons_succ]
      refine keep_nil ?_
      intro GG V5 hk1 hG
      obtain ⟨ha6, hz6, hd6⟩ := hG 5 (by simp)
      clear hd6
      simp only [putsA, dstAt, Act.put, ptrV, List.drop_succ_cons, List.drop_zero, List.getElem?_toArray, List.getElem?_cons_succ, List.getElem?_cons_zero, Option.bind_some, List.setIfInBounds_toArray, List.set_cons_zero, List.set_cons_succ]
      generalize GG 5 = g3 at *
      clear hG
      have HZ6 := Lib.hid hz6
      have HV1 := Lib.hid hk1; clear hk1 hz6
      go_upto_region 8 with (refine wpList_store_row rfl 39 (.tmp 9) (.tmp 29) rfl _ 0 rfl zeros24 (SM.map (Value.int .u32)) rfl HZ6.out (by rw [List.length_map, lS]; rfl) (by rw [List.length_map, lS]; exact sz_rpt) (int_oneCell _) ?_; intro W6 hr2 hc2; have HRS := Lib.hid hr2; have HK6 := Lib.hid (nm_keeps_chg HV1.out hc2 ha6); clear hr2 hc2)
      have HRres := Lib.hid (HRres.out.keeps HK6.out)
      have HKW := Lib.hid (HKW.out.trans HK6.out)
      have HR3 := Lib.hid (row3 lS1 lS2 lS3 (by have h := HRS.out; rwa [HSM.out] at h)).2.2
      rcases HC2.out with ⟨rfl, rfl, rfl⟩ | ⟨rfl, rfl, hPak⟩
      · go_wp2_with (first | (refine wpList_load_at rfl 37 (.tmp 30) rfl g3 16 rfl (S3.map (Value.int .u32)) _ HR3.out Try.underlying37 rfl (by rw [List.length_map, lS3]; exact sz_rnum) ?_) | ((with_reducible refine gate_bin .eql 37 37 (.tmp 31) (.tmp 32) ?_); refine cu_eql (by kernel_rfl) 37 37 (.tmp 31) (.tmp 32) rfl _ rz8 rfl rfl true HIN.out (by kernel_rfl) ?_) | (refine wpList_store_row rfl 25 (.tmp 4) (.tmp 34) rfl _ 0 rfl Zr (zeroL33.map (Value.int .u8)) rfl HRres.out (by rw [hZr]; rfl) sz_b33 (int_oneCell _) ?_; intro W8 hr2 hc2; have HN := Lib.hid hr2; have HC := Lib.hid hc2; clear hr2 hc2))
        exact bodyPost_ret (results_cell_tmpB (p := 4) (t := 5) (ty := 25) rfl _ _ (p + 1 + 1) 0 _ _ _ rfl rfl HN.out Try.underlying25 rfl sz_b33) rfl ⟨rfl, nm_keeps_chg HKW.out HC.out (by omega)⟩
      · have HPAK := Lib.hid hPak
        clear hPak HC2
        go_wp2_with (first | (refine wpList_load_at rfl 37 (.tmp 30) rfl g3 16 rfl (S3.map (Value.int .u32)) _ HR3.out Try.underlying37 rfl (by rw [List.length_map, lS3]; exact sz_rnum) ?_) | ((with_reducible refine gate_bin .eql 37 37 (.tmp 31) (.tmp 32) ?_); refine cu_eql (by kernel_rfl) 37 37 (.tmp 31) (.tmp 32) rfl _ rz8 rfl rfl false HIN.out (by kernel_rfl) ?_) | (refine wpList_load_at rfl 39 (.tmp 9) rfl _ 0 rfl (SM.map (Value.int .u32)) _ HRS.out Try.underlying39 rfl (by rw [List.length_map, lS]; exact sz_rpt) ?_) | (go_at_call 34; refine (HPAK.out _).mono ?_; rintro e W8 ⟨rfl, hk1⟩; have HK8 := Lib.hid hk1; clear hk1) | (refine wpList_store_row rfl 25 (.tmp 4) (.tmp 36) rfl _ 0 rfl Zr (RES.map (Value.int .u8)) rfl (HRres.out.keeps HK8.out) (by rw [List.length_map, lR, hZr]) (by rw [List.length_map, lR]; exact sz_b33) (int_oneCell _) ?_; intro W9 hr2 hc2; have HN := Lib.hid hr2; have HC := Lib.hid hc2; clear hr2 hc2))
        exact bodyPost_ret (results_cell_tmpB (p := 4) (t := 5) (ty := 25) rfl _ _ (p + 1 + 1) 0 _ _ _ rfl rfl HN.out Try.underlying25 rfl (by rw [List.length_map, lR]; exact sz_b33)) rfl ⟨rfl, nm_keeps_chg (HKW.out.trans HK8.out) HC.out (by omega)⟩
/-- the program's sum of a point and a number's point, and the reference's, are one point -/
theorem add_both {a : J} (hok : a.ok) (hz : a.z = 1) (hon : On (fp a.x) (fp a.y)) {k : Nat} (hk : k < 2 ^ 256) :
    ((plusJ a (timesR k gJ 256)).z = 0 ↔ (addJ a (timesJ k gJ 256)).z = 0) ∧ flatR (plusJ a (timesR k gJ 256)) = flatJ (addJ a (timesJ k gJ 256)) ∧ (addJ a (timesJ k gJ 256)).jr (addP (.aff (fp a.x) (fp a.y)) (mulP gP k)) := by
  obtain ⟨x, y, z⟩ := a
  dsimp only at hz hon ⊢
  subst hz
  have h1 := addJ_jr hok (timesJ_ok k gJ_ok 256) (P := .aff (fp x) (fp y)) (Q := mulP gP k) hon (gmul_on k) aff_jr (times_n gJ_ok g_on gJ_jr hk)
  have h2 := plusJ_pr (a := ⟨x, y, 1⟩) (b := timesR k gJ 256) (P := .aff (fp x) (fp y)) (Q := mulP gP k) hon (gmul_on k) aff_pr (timesR_n g_on gJ_pr hk)
  have o1 := addJ_ok hok (timesJ_ok k gJ_ok 256)
  have o2 := plusJ_ok ⟨x, y, 1⟩ (timesR k gJ 256)
  exact ⟨by rw [pr_z o2 h2, jr_z o1 h1], by rw [flatR_eq o2 h2, flatJ_eq o1 h1], h1⟩
theorem raddpub_any (PB B : List Int) (hP : Bytes PB) (hB : Bytes B) (lP : PB.length = 33) (lB : B.length = 32) (w : World) :
    Calls Try.prog 22 #[.agg (PB.map (Value.int .u8)).toArray, .agg (B.map (Value.int .u8)).toArray] w fun e w' => e = .returned (.tuple #[.agg ((addPV PB (be B)).1.map (Value.int .u8)).toArray, .int .i64 (addPV PB (be B)).2]) ∧ Keeps w w' := by
  have ht := be_u256 hB lB
  have hUn := fun v W (hv : Rd W 1 v 33 (PB.map (Value.int .u8))) => runpack_any v PB hP W (by rw [lP]; exact hv)
  rcases addPV_cases PB (be B) with ⟨h1, h2⟩ | ⟨h1, h2, h3⟩ | ⟨h1, a, h2, hc⟩
  · exact raddpub_walk PB B (words8 (be B)) (words8 NV) (unpCR PB) [] [] (nw8 0) (nw8 0) (nw8 0) _ _ (decide (be B < NV)) (unpN PB).isSome false _ lP lB (words8_length _) (unpCR_len _) (nw8_len _) (nw8_len _) (nw8_len _) rfl (addPV_len _ _) w
      (fun v W hr => rof_any v B W hr hB lB) (fun W => rn_any W) (fun W => rless8_any _ _ ht NV_u256 W) hUn (.inl ⟨decide_eq_false h1, by rw [h2], by rw [h2]⟩)
  · exact raddpub_walk PB B (words8 (be B)) (words8 NV) (unpCR PB) [] [] (nw8 0) (nw8 0) (nw8 0) _ _ (decide (be B < NV)) (unpN PB).isSome false _ lP lB (words8_length _) (unpCR_len _) (nw8_len _) (nw8_len _) (nw8_len _) rfl (addPV_len _ _) w
      (fun v W hr => rof_any v B W hr hB lB) (fun W => rn_any W) (fun W => rless8_any _ _ ht NV_u256 W) hUn (.inr (.inl ⟨decide_eq_true h1, by rw [h2]; rfl, by rw [h3], by rw [h3]⟩))
  · obtain ⟨n1, n2, n3⟩ := nv_toNat ht.1 h1
    obtain ⟨hok, hz1, hon⟩ := unpN_ok hP h2
    obtain ⟨b1, b2, _⟩ := add_both hok hz1 hon n1
    have hT : words8 (be B) = nw8 (be B).toNat := by unfold nw8; rw [n3]
    have hup : unpCR PB = ptR a := by unfold unpCR; rw [h2]
    have hsok := plusJ_ok a (timesR (be B).toNat gJ 256)
    have hTi := fun W => rtimes_any (be B).toNat gJ n1 gJ_ok W
    rw [← hT] at hTi
    have hE := rnum_equal (((plusJ a (timesR (be B).toNat gJ 256)).z : Nat) : Int) 0 (nat_u256 hsok.2.2) ⟨by omega, by decide⟩
    rw [rz8_eq] at hE
    refine raddpub_walk PB B (words8 (be B)) (words8 NV) (unpCR PB) (ptR gJ) (ptR (timesR (be B).toNat gJ 256)) (nw8 (plusJ a (timesR (be B).toNat gJ 256)).x) (nw8 (plusJ a (timesR (be B).toNat gJ 256)).y) (nw8 (plusJ a (timesR (be B).toNat gJ 256)).z) (ptR (plusJ a (timesR (be B).toNat gJ 256))) _ (decide (be B < NV)) (unpN PB).isSome (decide ((((plusJ a (timesR (be B).toNat gJ 256)).z : Nat) : Int) = 0)) _ lP lB (words8_length _) (unpCR_len _) (nw8_len _) (nw8_len _) (nw8_len _) rfl (addPV_len _ _) w
      (fun v W hr => rof_any v B W hr hB lB) (fun W => rn_any W) (fun W => rless8_any _ _ ht NV_u256 W) hUn (.inr (.inr ⟨decide_eq_true h1, by rw [h2]; rfl, fun W => rG_any W, hTi, fun W => by rw [hup]; exact rplus_any _ _ hok (timesR_ok _ 256) W, hE, ?_⟩))
    rcases hc with ⟨hz, he⟩ | ⟨hz, he⟩
    · exact .inl ⟨decide_eq_true (by rw [b1.2 hz]; rfl), by rw [he], by rw [he]⟩
    · refine .inr ⟨decide_eq_false (fun h => hz (b1.1 (by exact_mod_cast h))), by rw [he], fun W => ?_⟩
      rw [he, ← b2]
      exact rpack_any _ hsok W
end Go.Proofs.Ytajipagpdphejaa
