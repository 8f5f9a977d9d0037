/- The reference's Verify. No condition. -/
import Derived.Test.YtajipagpdphejaaGD8
namespace Go.Proofs.Ytajipagpdphejaa
set_option linter.unusedVariables false
set_option linter.unusedSimpArgs false
open Go Go.RowKit Cv

set_option maxRecDepth 100000 in
set_option maxHeartbeats 4000000 in
theorem rverno_walk (pv sv : Value) (MB PL UP : List Int) (ub : Bool) (sa : Option Addr) (n cap : Nat) (hsv : sv = .slice sa n cap) (hn : ub = true → ¬ n = 64) (hn2 : (n : Int) < 9223372036854775808) (lUP : UP.length = 24) (w : World) (hpv : Rd w 1 pv PL.length (PL.map (Value.int .u8)))
    (hUnp : ∀ W, Rd W 1 pv PL.length (PL.map (Value.int .u8)) → Calls Try.prog 15 #[pv] W fun e w' => e = .returned (.tuple #[.agg (UP.map (Value.int .u32)).toArray, .bool ub]) ∧ Keeps W w') :
    Calls Try.prog 18 #[pv, .agg (MB.map (Value.int .u8)).toArray, sv] w fun e w' => e = .returned (.bool false) ∧ Keeps w w' := by
  subst hsv
  have HUNP := Lib.hid hUnp; have HPV := Lib.hid hpv; have HN := Lib.hid hn
  clear hUnp hpv hn
  go_enter Try.func18, Try.ntmps18
  go_upto_region 1 with (fail)
  refine cu_rows1 (fun W hk hra hs => ?_)
  have HKW := Lib.hid hk
  clear hra hs hk
  go_upto_region 2 with (first | (go_at_call 15; refine (HUNP.out _ (HPV.out.keeps HKW.out)).mono ?_; rintro e W2 ⟨rfl, hk2⟩; have HK2 := Lib.hid hk2; clear hk2) | (refine wpList_store_row rfl 39 (.tmp 7) (.tmp 18) rfl W2.heap.size 0 rfl zeros24 (UP.map (Value.int .u32)) rfl (Row.new _ _ _ rfl) (by rw [List.length_map, lUP]; rfl) (by rw [List.length_map, lUP]; exact sz_rpt) (int_oneCell _) ?_; intro W3 hr2 hc2; have HK3 := Lib.hid (nm_keeps_chg (nm_keeps_alloc HK2.out _) hc2 HK2.out.size); clear hr2 hc2))
  cases ub
  · go_wp2
    go_ret
    exact ⟨rfl, HKW.out.trans HK3.out⟩
  · have z1 : ((n : Int) != 64) = true := by rw [bne_iff_ne]; have := HN.out rfl; omega
    go_wp2
    go_ret
    exact ⟨rfl, HKW.out.trans HK3.out⟩
set_option maxRecDepth 100000 in
set_option maxHeartbeats 16000000 in
theorem rverify_walk (pv : Value) (MB PL SL UP RR SS NN MN MI WI U1 U2 GJ T1 T2 S1 S2 S3 SM FX FY RI : List Int) (kr ks z q res : Bool) (g off cap : Nat) (lMB : MB.length = 32) (lSL : SL.length = 64) (lUP : UP.length = 24) (lRR : RR.length = 8) (lSS : SS.length = 8) (lWI : WI.length = 8) (l1 : S1.length = 8) (l2 : S2.length = 8) (l3 : S3.length = 8) (hSM : SM = S1 ++ S2 ++ S3) (lFX : FX.length = 8) (lFY : FY.length = 8) (w : World)
    (hcap : 64 ≤ cap) (hcap2 : cap < 9223372036854775808) (hg : g < w.heap.size) (hS : Row w g off (SL.map (Value.int .u8))) (hpv : Rd w 1 pv PL.length (PL.map (Value.int .u8)))
    (hUnp : ∀ W, Rd W 1 pv PL.length (PL.map (Value.int .u8)) → Calls Try.prog 15 #[pv] W fun e w' => e = .returned (.tuple #[.agg (UP.map (Value.int .u32)).toArray, .bool true]) ∧ Keeps W w')
    (hOr : ∀ v W, Rd W 1 v 32 ((SL.take 32).map (Value.int .u8)) → Calls Try.prog 24 #[v] W fun e w' => e = .returned (.agg (RR.map (Value.int .u32)).toArray) ∧ Keeps W w')
    (hOs : ∀ v W, Rd W 1 v 32 ((SL.drop 32).map (Value.int .u8)) → Calls Try.prog 24 #[v] W fun e w' => e = .returned (.agg (SS.map (Value.int .u32)).toArray) ∧ Keeps W w')
    (hKr : ∀ W, Calls Try.prog 33 #[.agg (RR.map (Value.int .u32)).toArray] W fun e w' => e = .returned (.bool kr) ∧ Keeps W w')
    (hKs : ∀ W, Calls Try.prog 33 #[.agg (SS.map (Value.int .u32)).toArray] W fun e w' => e = .returned (.bool ks) ∧ Keeps W w')
    (hcase : ((kr && ks) = false ∧ res = false) ∨ (kr = true ∧ ks = true ∧
      (∀ W, Calls Try.prog 27 #[] W fun e w' => e = .returned (.agg (NN.map (Value.int .u32)).toArray) ∧ Keeps W w') ∧
      (∀ W, Calls Try.prog 47 #[.agg (SS.map (Value.int .u32)).toArray, .agg (NN.map (Value.int .u32)).toArray] W fun e w' => e = .returned (.agg (WI.map (Value.int .u32)).toArray) ∧ Keeps W w') ∧
      (∀ v W, Rd W 1 v 32 (MB.map (Value.int .u8)) → Calls Try.prog 24 #[v] W fun e w' => e = .returned (.agg (MN.map (Value.int .u32)).toArray) ∧ Keeps W w') ∧
      (∀ W, Calls Try.prog 50 #[.agg (MN.map (Value.int .u32)).toArray, .agg (NN.map (Value.int .u32)).toArray] W fun e w' => e = .returned (.agg (MI.map (Value.int .u32)).toArray) ∧ Keeps W w') ∧
      (∀ W, Calls Try.prog 49 #[.agg (MI.map (Value.int .u32)).toArray, .agg (WI.map (Value.int .u32)).toArray, .agg (NN.map (Value.int .u32)).toArray] W fun e w' => e = .returned (.agg (U1.map (Value.int .u32)).toArray) ∧ Keeps W w') ∧
      (∀ W, Calls Try.prog 36 #[] W fun e w' => e = .returned (.agg (GJ.map (Value.int .u32)).toArray) ∧ Keeps W w') ∧
      (∀ W, Calls Try.prog 35 #[.agg (U1.map (Value.int .u32)).toArray, .agg (GJ.map (Value.int .u32)).toArray] W fun e w' => e = .returned (.agg (T1.map (Value.int .u32)).toArray) ∧ Keeps W w') ∧
      (∀ W, Calls Try.prog 49 #[.agg (RR.map (Value.int .u32)).toArray, .agg (WI.map (Value.int .u32)).toArray, .agg (NN.map (Value.int .u32)).toArray] W fun e w' => e = .returned (.agg (U2.map (Value.int .u32)).toArray) ∧ Keeps W w') ∧
      (∀ W, Calls Try.prog 35 #[.agg (U2.map (Value.int .u32)).toArray, .agg (UP.map (Value.int .u32)).toArray] W fun e w' => e = .returned (.agg (T2.map (Value.int .u32)).toArray) ∧ Keeps W w') ∧
      (∀ W, Calls Try.prog 48 #[.agg (T1.map (Value.int .u32)).toArray, .agg (T2.map (Value.int .u32)).toArray] W fun e w' => e = .returned (.agg (SM.map (Value.int .u32)).toArray) ∧ Keeps W w') ∧
      (∀ W, (Op.equalIn 10000 37 (.agg (S3.map (Value.int .u32)).toArray) (.agg rz8)).run Try.prog W = .ok z W) ∧
      ((z = true ∧ res = false) ∨ (z = false ∧
        (∀ W, Calls Try.prog 51 #[.agg (SM.map (Value.int .u32)).toArray] W fun e w' => e = .returned (.tuple #[.agg (FX.map (Value.int .u32)).toArray, .agg (FY.map (Value.int .u32)).toArray]) ∧ Keeps W w') ∧
        (∀ W, Calls Try.prog 50 #[.agg (FX.map (Value.int .u32)).toArray, .agg (NN.map (Value.int .u32)).toArray] W fun e w' => e = .returned (.agg (RI.map (Value.int .u32)).toArray) ∧ Keeps W w') ∧
        (∀ W, (Op.equalIn 10000 37 (.agg (RI.map (Value.int .u32)).toArray) (.agg (RR.map (Value.int .u32)).toArray)).run Try.prog W = .ok res W))))) :
    Calls Try.prog 18 #[pv, .agg (MB.map (Value.int .u8)).toArray, .slice (some ⟨g, off, none⟩) 64 cap] w fun e w' => e = .returned (.bool res) ∧ Keeps w w' := by
  have lSM : SM.length = 24 := by rw [hSM]; exact len3 l1 l2 l3
  have HSM := Lib.hid hSM
  have HUNP := Lib.hid hUnp; have HOR := Lib.hid hOr; have HOS := Lib.hid hOs; have HKR := Lib.hid hKr; have HKS := Lib.hid hKs; have HCASE := Lib.hid hcase; have HPV := Lib.hid hpv; have HSL := Lib.hid hS
  clear hUnp hKr hKs hcase hpv hS hOr hOs hSM
  have hc32 : ¬ cap = 32 := by omega
  have hc32' : 32 ≤ cap := by omega
  have hc32i : (32 : Int) ≤ cap := by omega
  have lt1 : (SL.take 32).length = 32 := by rw [List.length_take, lSL]; rfl
  have lt2 : (SL.drop 32).length = 32 := by rw [List.length_drop, lSL]
  have HS1 := Lib.hid (fun W (h : Keeps w W) => show Rd W 1 (.slice (some ⟨g, off, none⟩) 32 cap) 32 ((SL.take 32).map (Value.int .u8)) from Rd.of_row (by rw [List.map_take]; exact (HSL.out.keeps h).take 32) (by rw [List.length_map, lt1]) (Nat.lt_of_lt_of_le hg h.size) (by omega) (by unfold maxLen; omega))
  have HS2 := Lib.hid (fun W (h : Keeps w W) => show Rd W 1 (.slice (some ⟨g, off + 32, none⟩) 32 (cap - 32)) 32 ((SL.drop 32).map (Value.int .u8)) from Rd.of_row (by rw [List.map_drop]; exact (HSL.out.keeps h).drop 32) (by rw [List.length_map, lt2]) (Nat.lt_of_lt_of_le hg h.size) (by omega) (by unfold maxLen; omega))
  generalize SL.take 32 = SA at *
  generalize SL.drop 32 = SB at *
  clear HSL
  go_enter Try.func18, Try.ntmps18
  go_upto_region 1 with (fail)
  refine cu_rows1 (fun W hk hra hs => ?_)
  obtain ⟨p, hp⟩ : ∃ p, p = w.heap.size := ⟨_, rfl⟩
  rw [← hp] at hra hs hg ⊢
  have HRM := Lib.hid (show Row W p 0 (MB.map (Value.int .u8)) from hra); have HKW := Lib.hid hk
  have hpW : p < W.heap.size := by omega
  clear hp hk hra hs
  go_upto_region 2 with (first | (go_at_call 15; refine (HUNP.out _ (HPV.out.keeps HKW.out)).mono ?_; rintro e W2 ⟨rfl, hk2⟩; have HK2 := Lib.hid hk2; clear hk2) | (refine wpList_store_row rfl 39 (.tmp 7) (.tmp 18) rfl W2.heap.size 0 rfl zeros24 (UP.map (Value.int .u32)) rfl (Row.new _ _ _ rfl) (by rw [List.length_map, lUP]; rfl) (by rw [List.length_map, lUP]; exact sz_rpt) (int_oneCell _) ?_; intro W3 hr2 hc2; have HRU := Lib.hid hr2; have HK3 := Lib.hid (nm_keeps_chg (nm_keeps_alloc HK2.out _) hc2 HK2.out.size); clear hr2 hc2))
  generalize W2.heap.size = u at *
  have HRM := Lib.hid (HRM.out.keeps HK3.out); have HKW := Lib.hid (HKW.out.trans HK3.out)
  have hpW3 : p < W3.heap.size := Nat.lt_of_lt_of_le hpW HK3.out.size
  clear HK3 HK2
  go_upto_region 4 with (fail)
  have HSA := Lib.hid (HS1.out _ HKW.out)
  go_upto_region 5 with (first | (go_at_call 24; refine (HOR.out _ _ HSA.out).mono ?_; rintro e W4 ⟨rfl, hk2⟩; have HK4 := Lib.hid hk2; clear hk2) | (refine wpList_store_row rfl 37 (.tmp 9) (.tmp 29) rfl W4.heap.size 0 rfl zeros8 (RR.map (Value.int .u32)) rfl (Row.new _ _ _ rfl) (by rw [List.length_map, lRR]; rfl) (by rw [List.length_map, lRR]; exact sz_rnum) (int_oneCell _) ?_; intro W5 hr2 hc2; have HRR := Lib.hid hr2; have HK5 := Lib.hid (nm_keeps_chg (nm_keeps_alloc HK4.out _) hc2 HK4.out.size); clear hr2 hc2))
  generalize W4.heap.size = r at *
  have HRM := Lib.hid (HRM.out.keeps HK5.out); have HKW := Lib.hid (HKW.out.trans HK5.out); have HRU := Lib.hid (HRU.out.keeps HK5.out)
  have hpW5 : p < W5.heap.size := Nat.lt_of_lt_of_le hpW3 HK5.out.size
  have HSB := Lib.hid (HS2.out _ HKW.out)
  clear HK5 HK4 HSA
  go_upto_region 6 with (first | (go_at_call 24; refine (HOS.out _ _ HSB.out).mono ?_; rintro e W6 ⟨rfl, hk2⟩; have HK6 := Lib.hid hk2; clear hk2) | (refine wpList_store_row rfl 37 (.tmp 10) (.tmp 32) rfl W6.heap.size 0 rfl zeros8 (SS.map (Value.int .u32)) rfl (Row.new _ _ _ rfl) (by rw [List.length_map, lSS]; rfl) (by rw [List.length_map, lSS]; exact sz_rnum) (int_oneCell _) ?_; intro W7 hr2 hc2; have HRS := Lib.hid hr2; have HK7 := Lib.hid (nm_keeps_chg (nm_keeps_alloc HK6.out _) hc2 HK6.out.size); clear hr2 hc2))
  generalize W6.heap.size = s at *
  have HRM := Lib.hid (HRM.out.keeps HK7.out); have HKW := Lib.hid (HKW.out.trans HK7.out); have HRU := Lib.hid (HRU.out.keeps HK7.out); have HRR := Lib.hid (HRR.out.keeps HK7.out)
  have hpW7 : p < W7.heap.size := Nat.lt_of_lt_of_le hpW5 HK7.out.size
  clear HK7 HK6 HSB
  rcases HCASE.out with ⟨hno, rfl⟩ | ⟨rfl, rfl, hN, hInv, hNum, hIn, hM1, hBase, hT1, hM2, hT2, hAdd, hInf, hc2⟩
  · clear HCASE
    cases kr
    · go_wp2_with (first | (refine wpList_load_at rfl 37 (.tmp 9) rfl _ 0 rfl (RR.map (Value.int .u32)) _ HRR.out Try.underlying37 rfl (by rw [List.length_map, lRR]; exact sz_rnum) ?_) | (go_at_call 33; refine (HKR.out _).mono ?_; rintro e W8 ⟨rfl, hk2⟩; have HK8 := Lib.hid hk2; clear hk2))
      go_ret
      exact ⟨rfl, HKW.out.trans HK8.out⟩
    · cases ks
      · go_wp2_with (first | (refine wpList_load_at rfl 37 (.tmp 9) rfl _ 0 rfl (RR.map (Value.int .u32)) _ HRR.out Try.underlying37 rfl (by rw [List.length_map, lRR]; exact sz_rnum) ?_) | ((with_reducible refine gate_load 37 (.tmp 10) ?_); refine cu_load (by kernel_rfl) 37 (.tmp 10) rfl _ 0 rfl (SS.map (Value.int .u32)) _ (HRS.out.keeps HK8.out) Try.underlying37 rfl (by rw [List.length_map, lSS]; exact sz_rnum) ?_) | (go_at_call 33; first | ((with_reducible refine (HKR.out _).mono ?_); rintro e W8 ⟨rfl, hk2⟩; have HK8 := Lib.hid hk2; clear hk2) | ((with_reducible refine (HKS.out _).mono ?_); rintro e W9 ⟨rfl, hk2⟩; have HK9 := Lib.hid (HK8.out.trans hk2); clear hk2)))
        go_ret
        exact ⟨rfl, HKW.out.trans HK9.out⟩
      · cases hno
  · have HNN := Lib.hid hN; have HINV := Lib.hid hInv; have HNUM := Lib.hid hNum; have HIN := Lib.hid hIn; have HM1 := Lib.hid hM1; have HBA := Lib.hid hBase; have HT1 := Lib.hid hT1; have HM2 := Lib.hid hM2; have HT2 := Lib.hid hT2; have HADD := Lib.hid hAdd; have HINF := Lib.hid hInf; have HC2 := Lib.hid hc2
    clear hN hInv hNum hIn hM1 hBase hT1 hM2 hT2 hAdd hInf hc2 HCASE
    go_upto_region 8 with (first | (refine wpList_load_at rfl 37 (.tmp 9) rfl _ 0 rfl (RR.map (Value.int .u32)) _ HRR.out Try.underlying37 rfl (by rw [List.length_map, lRR]; exact sz_rnum) ?_) | ((with_reducible refine gate_load 37 (.tmp 10) ?_); refine cu_load (by kernel_rfl) 37 (.tmp 10) rfl _ 0 rfl (SS.map (Value.int .u32)) _ (HRS.out.keeps HK8.out) Try.underlying37 rfl (by rw [List.length_map, lSS]; exact sz_rnum) ?_) | (go_at_call 33; first | ((with_reducible refine (HKR.out _).mono ?_); rintro e W8 ⟨rfl, hk2⟩; have HK8 := Lib.hid hk2; clear hk2) | ((with_reducible refine (HKS.out _).mono ?_); rintro e W9 ⟨rfl, hk2⟩; have HK9 := Lib.hid (HK8.out.trans hk2); clear hk2)))
    have HRM := Lib.hid (HRM.out.keeps HK9.out); have HKW := Lib.hid (HKW.out.trans HK9.out); have HRU := Lib.hid (HRU.out.keeps HK9.out); have HRR := Lib.hid (HRR.out.keeps HK9.out); have HRS := Lib.hid (HRS.out.keeps HK9.out)
    have hpW9 : p < W9.heap.size := Nat.lt_of_lt_of_le hpW7 HK9.out.size
    clear HK9 HK8
    refine wp_region_keep 4 [3] [0, 1, 2] (fun _ => zeros8) (by kernel_rfl) (by kernel_rfl) (by intro i hi; simp only [List.mem_cons, List.not_mem_nil, or_false] at hi; (first | (rcases hi with rfl | rfl) | subst hi) <;> exact ⟨_, rfl, alloc_rnum rfl rfl⟩) ?_
    refine keep_pure (o := ?_) (v := ?_) ?_ ?_ ?_ ?_
    rotate_left 2
    focus (simp only [kG]; exact rfl)
    focus rfl
    focus (intro wS hS; (refine cu_run_load 37 (.tmp 10) ?_ s 0 ?_ (SS.map (Value.int .u32)) _ (HRS.out.keeps hS) Try.underlying37 rfl (by rw [List.length_map, lSS]; exact sz_rnum)) <;> rfl)
    try simp only [kP]
    refine keep_call (o := ?_) (f := ?_) (args := ?_) (v := ?_) ?_ ?_ ?_ ?_ ?_
    rotate_left 4
    focus (simp only [kG]; exact rfl)
    focus rfl
    focus (intro wS; go_simp; refine ⟨?_, ?_⟩ <;> with_reducible rfl)
    focus (intro wS hS; exact HNN.out wS)
    try simp only [kP]
    refine keep_call (o := ?_) (f := ?_) (args := ?_) (v := ?_) ?_ ?_ ?_ ?_ ?_
    rotate_left 4
    focus (simp only [kG]; exact rfl)
    focus rfl
    focus (intro wS; go_simp; refine ⟨?_, ?_⟩ <;> with_reducible rfl)
    focus (intro wS hS; exact HINV.out wS)
    try simp only [kP]
    refine keep_nil ?_
    intro GG V5 hk1 hG
    obtain ⟨ha6, hz6, hd6⟩ := hG 3 (by simp)
    clear hd6
    simp only [putsA, dstAt, Act.put, ptrV, List.drop_succ_cons, List.drop_zero, List.getElem?_toArray, List.getElem?_cons_succ, List.getElem?_cons_zero, Option.bind_some, List.setIfInBounds_toArray, List.set_cons_zero, List.set_cons_succ]
    generalize GG 3 = wi at *
    clear hG
    have HZ6 := Lib.hid hz6
    have HV1 := Lib.hid hk1; clear hk1 hz6
    go_upto_region 9 with (refine wpList_store_row rfl 37 (.tmp 11) (.tmp 43) rfl _ 0 rfl zeros8 (WI.map (Value.int .u32)) rfl HZ6.out (by rw [List.length_map, lWI]; rfl) (by rw [List.length_map, lWI]; exact sz_rnum) (int_oneCell _) ?_; intro W6 hr2 hc2; have HRW := Lib.hid hr2; have HK6 := Lib.hid (nm_keeps_chg HV1.out hc2 ha6); clear hr2 hc2)
    have HRM := Lib.hid (HRM.out.keeps HK6.out); have HKW := Lib.hid (HKW.out.trans HK6.out); have HRU := Lib.hid (HRU.out.keeps HK6.out); have HRR := Lib.hid (HRR.out.keeps HK6.out)
    have hpW6 : p < W6.heap.size := Nat.lt_of_lt_of_le hpW9 HK6.out.size
    clear HK6 HV1 HZ6 ha6
    have HRDM := Lib.hid (fun W' (hk : Keeps W6 W') => show Rd W' 1 (.slice (some ⟨p, 0, none⟩) 32 32) 32 (MB.map (Value.int .u8)) from Rd.of_row (HRM.out.keeps hk) (by simp [lMB]) (Nat.lt_of_lt_of_le hpW6 hk.size) (by omega) (by unfold maxLen; omega))
    refine wp_region_keep 17 [16] [0, 1, 2, 3, 4, 5, 6, 7, 8, 9, 10, 11, 12, 13, 14, 15] (fun _ => zeros24) (by kernel_rfl) (by kernel_rfl) (by intro i hi; simp only [List.mem_cons, List.not_mem_nil, or_false] at hi; (first | (rcases hi with rfl | rfl) | subst hi) <;> exact ⟨_, rfl, alloc_rpt rfl rfl⟩) ?_
    refine keep_pure (o := ?_) (v := ?_) ?_ ?_ ?_ ?_
    rotate_left 2
    focus (simp only [kG]; exact rfl)
    focus rfl
    focus ((intro wS hS; go_simp) <;> with_reducible rfl)
    try simp only [kP]
    refine keep_call (o := ?_) (f := ?_) (args := ?_) (v := ?_) ?_ ?_ ?_ ?_ ?_
    rotate_left 4
    focus (simp only [kG]; exact rfl)
    focus rfl
    focus (intro wS; go_simp; refine ⟨?_, ?_⟩ <;> with_reducible rfl)
    focus (intro wS hS; exact HNUM.out _ wS (HRDM.out wS hS))
    try simp only [kP]
    refine keep_call (o := ?_) (f := ?_) (args := ?_) (v := ?_) ?_ ?_ ?_ ?_ ?_
    rotate_left 4
    focus (simp only [kG]; exact rfl)
    focus rfl
    focus (intro wS; go_simp; refine ⟨?_, ?_⟩ <;> with_reducible rfl)
    focus (intro wS hS; exact HNN.out wS)
    try simp only [kP]
    refine keep_call (o := ?_) (f := ?_) (args := ?_) (v := ?_) ?_ ?_ ?_ ?_ ?_
    rotate_left 4
    focus (simp only [kG]; exact rfl)
    focus rfl
    focus (intro wS; go_simp; refine ⟨?_, ?_⟩ <;> with_reducible rfl)
    focus (intro wS hS; exact HIN.out wS)
    try simp only [kP]
    refine keep_pure (o := ?_) (v := ?_) ?_ ?_ ?_ ?_
    rotate_left 2
    focus (simp only [kG]; exact rfl)
    focus rfl
    focus (intro wS hS; (refine cu_run_load 37 (.tmp 11) ?_ wi 0 ?_ (WI.map (Value.int .u32)) _ (HRW.out.keeps hS) Try.underlying37 rfl (by rw [List.length_map, lWI]; exact sz_rnum)) <;> rfl)
    try simp only [kP]
    refine keep_call (o := ?_) (f := ?_) (args := ?_) (v := ?_) ?_ ?_ ?_ ?_ ?_
    rotate_left 4
    focus (simp only [kG]; exact rfl)
    focus rfl
    focus (intro wS; go_simp; refine ⟨?_, ?_⟩ <;> with_reducible rfl)
    focus (intro wS hS; exact HNN.out wS)
    try simp only [kP]
    refine keep_call (o := ?_) (f := ?_) (args := ?_) (v := ?_) ?_ ?_ ?_ ?_ ?_
    rotate_left 4
    focus (simp only [kG]; exact rfl)
    focus rfl
    focus (intro wS; go_simp; refine ⟨?_, ?_⟩ <;> with_reducible rfl)
    focus (intro wS hS; exact HM1.out wS)
    try simp only [kP]
    refine keep_call (o := ?_) (f := ?_) (args := ?_) (v := ?_) ?_ ?_ ?_ ?_ ?_
    rotate_left 4
    focus (simp only [kG]; exact rfl)
    focus rfl
    focus (intro wS; go_simp; refine ⟨?_, ?_⟩ <;> with_reducible rfl)
    focus (intro wS hS; exact HBA.out wS)
    try simp only [kP]
    refine keep_call (o := ?_) (f := ?_) (args := ?_) (v := ?_) ?_ ?_ ?_ ?_ ?_
    rotate_left 4
    focus (simp only [kG]; exact rfl)
    focus rfl
    focus (intro wS; go_simp; refine ⟨?_, ?_⟩ <;> with_reducible rfl)
    focus (intro wS hS; exact HT1.out wS)
    try simp only [kP]
    refine keep_pure (o := ?_) (v := ?_) ?_ ?_ ?_ ?_
    rotate_left 2
    focus (simp only [kG]; exact rfl)
    focus rfl
    focus (intro wS hS; (refine cu_run_load 37 (.tmp 9) ?_ r 0 ?_ (RR.map (Value.int .u32)) _ (HRR.out.keeps hS) Try.underlying37 rfl (by rw [List.length_map, lRR]; exact sz_rnum)) <;> rfl)
    try simp only [kP]
    refine keep_pure (o := ?_) (v := ?_) ?_ ?_ ?_ ?_
    rotate_left 2
    focus (simp only [kG]; exact rfl)
    focus rfl
    focus (intro wS hS; (refine cu_run_load 37 (.tmp 11) ?_ wi 0 ?_ (WI.map (Value.int .u32)) _ (HRW.out.keeps hS) Try.underlying37 rfl (by rw [List.length_map, lWI]; exact sz_rnum)) <;> rfl)
    try simp only [kP]
    refine keep_call (o := ?_) (f := ?_) (args := ?_) (v := ?_) ?_ ?_ ?_ ?_ ?_
    rotate_left 4
    focus (simp only [kG]; exact rfl)
    focus rfl
    focus (intro wS; go_simp; refine ⟨?_, ?_⟩ <;> with_reducible rfl)
    focus (intro wS hS; exact HNN.out wS)
    try simp only [kP]
    refine keep_call (o := ?_) (f := ?_) (args := ?_) (v := ?_) ?_ ?_ ?_ ?_ ?_
    rotate_left 4
    focus (simp only [kG]; exact rfl)
    focus rfl
    focus (intro wS; go_simp; refine ⟨?_, ?_⟩ <;> with_reducible rfl)
    focus (intro wS hS; exact HM2.out wS)
    try simp only [kP]
    refine keep_pure (o := ?_) (v := ?_) ?_ ?_ ?_ ?_
    rotate_left 2
    focus (simp only [kG]; exact rfl)
    focus rfl
    focus (intro wS hS; (refine cu_run_load 39 (.tmp 7) ?_ u 0 ?_ (UP.map (Value.int .u32)) _ (HRU.out.keeps hS) Try.underlying39 rfl (by rw [List.length_map, lUP]; exact sz_rpt)) <;> rfl)
    try simp only [kP]
    refine keep_call (o := ?_) (f := ?_) (args := ?_) (v := ?_) ?_ ?_ ?_ ?_ ?_
    rotate_left 4
    focus (simp only [kG]; exact rfl)
    focus rfl
    focus (intro wS; go_simp; refine ⟨?_, ?_⟩ <;> with_reducible rfl)
    focus (intro wS hS; exact HT2.out wS)
    try simp only [kP]
    refine keep_call (o := ?_) (f := ?_) (args := ?_) (v := ?_) ?_ ?_ ?_ ?_ ?_
    rotate_left 4
    focus (simp only [kG]; exact rfl)
    focus rfl
    focus (intro wS; go_simp; refine ⟨?_, ?_⟩ <;> with_reducible rfl)
    focus (intro wS hS; exact HADD.out wS)
    try simp only [kP]
    refine keep_nil ?_
    intro GG V6 hk1 hG
    obtain ⟨ha6, hz6, hd6⟩ := hG 16 (by simp)
    clear hd6
    simp only [putsA, dstAt, Act.put, ptrV, List.drop_succ_cons, List.drop_zero, List.getElem?_toArray, List.getElem?_cons_succ, List.getElem?_cons_zero, Option.bind_some, List.setIfInBounds_toArray, List.set_cons_zero, List.set_cons_succ]
    generalize GG 16 = g3 at *
    clear hG
    have HZ6 := Lib.hid hz6
    have HV1 := Lib.hid hk1; clear hk1 hz6
    go_upto_region 10 with (refine wpList_store_row rfl 39 (.tmp 12) (.tmp 59) rfl _ 0 rfl zeros24 (SM.map (Value.int .u32)) rfl HZ6.out (by rw [List.length_map, lSM]; rfl) (by rw [List.length_map, lSM]; exact sz_rpt) (int_oneCell _) ?_; intro W7 hr2 hc2; have HRQ := Lib.hid hr2; have HK6 := Lib.hid (nm_keeps_chg HV1.out hc2 ha6); clear hr2 hc2)
    have HKW := Lib.hid (HKW.out.trans HK6.out); have HRR := Lib.hid (HRR.out.keeps HK6.out)
    have HR3 := Lib.hid (row3 l1 l2 l3 (by have h := HRQ.out; rwa [HSM.out] at h)).2.2
    clear HK6 HV1 HZ6 HRDM HRW HRU HRM
    rcases HC2.out with ⟨rfl, rfl⟩ | ⟨rfl, hFl, hIn2, hE⟩
    · go_wp2_with (first | (refine wpList_load_at rfl 37 (.tmp 60) rfl g3 16 rfl (S3.map (Value.int .u32)) _ HR3.out Try.underlying37 rfl (by rw [List.length_map, l3]; exact sz_rnum) ?_) | ((with_reducible refine gate_bin .eql 37 37 (.tmp 61) (.tmp 62) ?_); refine cu_eql (by kernel_rfl) 37 37 (.tmp 61) (.tmp 62) rfl _ rz8 rfl rfl true HINF.out (by kernel_rfl) ?_))
      go_ret
      exact ⟨rfl, HKW.out⟩
    · have HFL := Lib.hid hFl; have HIN2 := Lib.hid hIn2; have HE := Lib.hid hE
      clear hFl hIn2 hE HC2
      go_upto_region 12 with (first | (refine wpList_load_at rfl 37 (.tmp 60) rfl g3 16 rfl (S3.map (Value.int .u32)) _ HR3.out Try.underlying37 rfl (by rw [List.length_map, l3]; exact sz_rnum) ?_) | ((with_reducible refine gate_bin .eql 37 37 (.tmp 61) (.tmp 62) ?_); refine cu_eql (by kernel_rfl) 37 37 (.tmp 61) (.tmp 62) rfl _ rz8 rfl rfl false HINF.out (by kernel_rfl) ?_))
      go_upto_region 13 with (first | (refine wpList_load_at rfl 39 (.tmp 12) rfl _ 0 rfl (SM.map (Value.int .u32)) _ HRQ.out Try.underlying39 rfl (by rw [List.length_map, lSM]; exact sz_rpt) ?_) | (go_at_call 51; refine (HFL.out _).mono ?_; rintro e V8 ⟨rfl, hk1⟩; have HV8 := Lib.hid hk1; clear hk1) | (refine cu_wl2 (fun Wa hka hr1 hr2 hs2 => ?_); have HKA := Lib.hid (HV8.out.trans hka); have HZ1 := Lib.hid (show Row Wa V8.heap.size 0 zeros8 from hr1); have HZ2 := Lib.hid (show Row Wa (V8.heap.size + 1) 0 zeros8 from hr2); clear hka hr1 hr2 hs2) | (refine wpList_store_row rfl 37 (.tmp 13) (.tmp 67) rfl _ 0 rfl zeros8 (FX.map (Value.int .u32)) rfl HZ1.out (by rw [List.length_map, lFX]; rfl) (by rw [List.length_map, lFX]; exact sz_rnum) (int_oneCell _) ?_; intro Wb hr2 hc2; have HN1 := Lib.hid hr2; have HC1 := Lib.hid hc2; clear hr2 hc2) | (refine wpList_store_row rfl 37 (.tmp 14) (.tmp 68) rfl _ 0 rfl zeros8 (FY.map (Value.int .u32)) rfl (HZ2.out.chg HC1.out (by omega)) (by rw [List.length_map, lFY]; rfl) (by rw [List.length_map, lFY]; exact sz_rnum) (int_oneCell _) ?_; intro Wc hr2 hc2; have HN2 := Lib.hid hr2; have HCB := Lib.hid hc2; clear hr2 hc2))
      have HK2 := Lib.hid (nm_keeps_chg (nm_keeps_chg HKA.out HC1.out HV8.out.size) HCB.out (by have := HV8.out.size; omega))
      have HRX := Lib.hid (HN1.out.chg HCB.out (by omega))
      have HKW := Lib.hid (HKW.out.trans HK2.out); have HRR := Lib.hid (HRR.out.keeps HK2.out)
      generalize V8.heap.size = fx at *
      refine wp_region_keep 4 [] [0, 1, 2, 3] (fun _ => []) (by kernel_rfl) (by kernel_rfl) (by intro i hi; cases hi) ?_
      refine keep_pure (o := ?_) (v := ?_) ?_ ?_ ?_ ?_
      rotate_left 2
      focus (simp only [kG]; exact rfl)
      focus rfl
      focus (intro wS hS; (refine cu_run_load 37 (.tmp 13) ?_ fx 0 ?_ (FX.map (Value.int .u32)) _ (HRX.out.keeps hS) Try.underlying37 rfl (by rw [List.length_map, lFX]; exact sz_rnum)) <;> rfl)
      try simp only [kP]
      refine keep_call (o := ?_) (f := ?_) (args := ?_) (v := ?_) ?_ ?_ ?_ ?_ ?_
      rotate_left 4
      focus (simp only [kG]; exact rfl)
      focus rfl
      focus (intro wS; go_simp; refine ⟨?_, ?_⟩ <;> with_reducible rfl)
      focus (intro wS hS; exact HNN.out wS)
      try simp only [kP]
      refine keep_call (o := ?_) (f := ?_) (args := ?_) (v := ?_) ?_ ?_ ?_ ?_ ?_
      rotate_left 4
      focus (simp only [kG]; exact rfl)
      focus rfl
      focus (intro wS; go_simp; refine ⟨?_, ?_⟩ <;> with_reducible rfl)
      focus (intro wS hS; exact HIN2.out wS)
      try simp only [kP]
      refine keep_pure (o := ?_) (v := ?_) ?_ ?_ ?_ ?_
      rotate_left 2
      focus (simp only [kG]; exact rfl)
      focus rfl
      focus (intro wS hS; (refine cu_run_load 37 (.tmp 9) ?_ r 0 ?_ (RR.map (Value.int .u32)) _ (HRR.out.keeps hS) Try.underlying37 rfl (by rw [List.length_map, lRR]; exact sz_rnum)) <;> rfl)
      try simp only [kP]
      refine keep_nil ?_
      intro GG V9 hk1 hG
      clear hG
      simp only [putsA, dstAt, Act.put, ptrV, List.drop_succ_cons, List.drop_zero, List.getElem?_toArray, List.getElem?_cons_succ, List.getElem?_cons_zero, Option.bind_some, List.setIfInBounds_toArray, List.set_cons_zero, List.set_cons_succ]
      have HKW := Lib.hid (HKW.out.trans hk1)
      clear hk1
      go_wp2_with (refine cu_eql (by kernel_rfl) 37 37 (.tmp 71) (.tmp 72) rfl _ _ rfl rfl res HE.out (by kernel_rfl) ?_)
      go_ret
      exact ⟨rfl, HKW.out⟩
theorem ver_both {a : J} (hok : a.ok) (hz : a.z = 1) (hon : On (fp a.x) (fp a.y)) {k l : Nat} (hk : k < 2 ^ 256) (hl : l < 2 ^ 256) :
    ((plusJ (timesR k gJ 256) (timesR l a 256)).z = 0 ↔ (addJ (timesJ k gJ 256) (timesJ l a 256)).z = 0) ∧ flatR (plusJ (timesR k gJ 256) (timesR l a 256)) = flatJ (addJ (timesJ k gJ 256) (timesJ l a 256)) ∧ (addJ (timesJ k gJ 256) (timesJ l a 256)).jr (addP (mulP gP k) (mulP (.aff (fp a.x) (fp a.y)) l)) := by
  obtain ⟨x, y, z⟩ := a
  dsimp only at hz hon ⊢
  subst hz
  have hP : (Pt.aff (fp x) (fp y)).on := hon
  have h1 := addJ_jr (timesJ_ok k gJ_ok 256) (timesJ_ok l hok 256) (gmul_on k) (mul_on good_p hP l) (times_n gJ_ok g_on gJ_jr hk) (times_n hok hP aff_jr hl)
  have h2 := plusJ_pr (gmul_on k) (mul_on good_p hP l) (timesR_n g_on gJ_pr hk) (timesR_n hP aff_pr hl)
  have o1 := addJ_ok (timesJ_ok k gJ_ok 256) (timesJ_ok l hok 256)
  have o2 := plusJ_ok (timesR k gJ 256) (timesR l ⟨x, y, 1⟩ 256)
  exact ⟨by rw [pr_z o2 h2, jr_z o1 h1], by rw [flatR_eq o2 h2, flatJ_eq o1 h1], h1⟩
theorem rnmod_any (x : Int) (hx : U256 x) (w : World) : Calls Try.prog 50 #[.agg ((words8 x).map (Value.int .u32)).toArray, .agg ((words8 NV).map (Value.int .u32)).toArray] w fun e w' => e = .returned (.agg ((words8 (x % NV)).map (Value.int .u32)).toArray) ∧ Keeps w w' := by
  have := rmod_any NV x NV_u256 hx w
  rwa [in_mod hx.1 hx.2 rmod_n.two] at this
theorem rnmul_any (x y : Nat) (hx : x < nVn) (hy : y < nVn) (w : World) : Calls Try.prog 49 #[.agg ((nw8 x).map (Value.int .u32)).toArray, .agg ((nw8 y).map (Value.int .u32)).toArray, .agg ((words8 NV).map (Value.int .u32)).toArray] w fun e w' => e = .returned (.agg ((nw8 (x * y % nVn)).map (Value.int .u32)).toArray) ∧ Keeps w w' := by
  have := rmul_any NV x y rmod_n (nv_u256 hx) (nv_u256 hy) w
  have e : ((x : Int) * (y : Int) % NV) = ((x * y % nVn : Nat) : Int) := by rw [nv_eq, Int.natCast_emod, Int.natCast_mul]
  rwa [e] at this
theorem rninv_any (s : Int) (h0 : 0 ≤ s) (h1 : s < NV) (w : World) : Calls Try.prog 47 #[.agg ((words8 s).map (Value.int .u32)).toArray, .agg ((words8 NV).map (Value.int .u32)).toArray] w fun e w' => e = .returned (.agg ((nw8 (wN s)).map (Value.int .u32)).toArray) ∧ Keeps w w' := by
  obtain ⟨n1, n2, n3⟩ := nv_toNat h0 h1
  have := rinverse_any nVn rmod_nn s.toNat n1 w
  rw [n3, ← nv_eq] at this
  exact this
theorem rverify_any (pv sv : Value) (P M S : List Int) (hP : Bytes P) (hM : Bytes M) (hS : Bytes S) (lM : M.length = 32) (w : World) (hpv : Rd w 1 pv P.length (P.map (Value.int .u8))) (hsv : Rd w 1 sv S.length (S.map (Value.int .u8))) :
    Calls Try.prog 18 #[pv, .agg (M.map (Value.int .u8)).toArray, sv] w fun e w' => e = .returned (.bool (verV P M S)) ∧ Keeps w w' := by
  obtain ⟨_, sa, cap, rfl, h2, h3, h4, h5⟩ := hsv
  have hsz : cap < 9223372036854775808 := by unfold maxLen at h3; omega
  have hU := fun W (hv : Rd W 1 pv P.length (P.map (Value.int .u8))) => runpack_any pv P hP W hv
  by_cases hl : S.length = 64
  · cases hu : unpN P with
    | none =>
      have hver : verV P M S = false := by unfold verV; rw [if_pos hl, hu]
      rw [hver]
      exact rverno_walk pv _ M P _ (unpN P).isSome sa S.length cap rfl (fun h => by rw [hu] at h; cases h) (by omega) (unpCR_len P) w hpv hU
    | some a =>
      rw [show (unpN P).isSome = true by rw [hu]; rfl] at hU
      cases sa with
      | none => have := (h4 rfl).1; omega
      | some ad =>
        obtain ⟨g, off, rfl, hg, hrow⟩ := h5 ad rfl (by omega)
        rw [hl] at h2 ⊢
        have lt1 : (S.take 32).length = 32 := by rw [List.length_take, hl]; rfl
        have lt2 : (S.drop 32).length = 32 := by rw [List.length_drop, hl]
        have b1 : Bytes (S.take 32) := fun x h => hS x (List.mem_of_mem_take h)
        have b2 : Bytes (S.drop 32) := fun x h => hS x (List.mem_of_mem_drop h)
        have hO1 := fun v W hr => rof_any v (S.take 32) W hr b1 lt1
        have hO2 := fun v W hr => rof_any v (S.drop 32) W hr b2 lt2
        have hK1 := fun W => rkey_any _ (be_u256 b1 lt1) W
        have hK2 := fun W => rkey_any _ (be_u256 b2 lt2) W
        have hver0 : verV P M S = if keyB (be (S.take 32)) = true ∧ keyB (be (S.drop 32)) = true then (if (verQ a (be (S.take 32)) (be (S.drop 32)) (be M)).z = 0 then false else decide ((((flatJ (verQ a (be (S.take 32)) (be (S.drop 32)) (be M))).1 : Nat) : Int) % NV = be (S.take 32))) else false := by
          unfold verV
          rw [if_pos hl, hu]
        by_cases hall : (keyB (be (S.take 32)) && keyB (be (S.drop 32))) = true
        · simp only [Bool.and_eq_true] at hall
          obtain ⟨q2, q3⟩ := hall
          obtain ⟨hok, hz1, hon⟩ := unpN_ok hP hu
          have k2 := key_lt q2
          have k3 := key_lt q3
          obtain ⟨r1, r2, r3⟩ := nv_toNat (by omega) k2.2
          have hm := be_u256 hM lM
          obtain ⟨m1, m2⟩ := mod_nat (m := be M)
          have hRR : words8 (be (S.take 32)) = nw8 (be (S.take 32)).toNat := by unfold nw8; rw [r3]
          have hMI : words8 (be M % NV) = nw8 (be M % NV).toNat := by unfold nw8; rw [m1]
          have hup : unpCR P = ptR a := by unfold unpCR; rw [hu]
          have hu1 := Nat.lt_trans (u1N_lt (be (S.drop 32)) (be M)) n_lt
          have hu2 := Nat.lt_trans (u2N_lt (be (S.take 32)) (be (S.drop 32))) n_lt
          obtain ⟨v1, v2, _⟩ := ver_both hok hz1 hon hu1 hu2
          have hM2 := fun W => rnmul_any (be (S.take 32)).toNat (wN (be (S.drop 32))) r2 (wN_lt _) W
          rw [← hRR] at hM2
          have hqok := plusJ_ok (timesR (u1N (be (S.drop 32)) (be M)) gJ 256) (timesR (u2N (be (S.take 32)) (be (S.drop 32))) a 256)
          have hfl : (flatJ (verQ a (be (S.take 32)) (be (S.drop 32)) (be M))).1 < PVn := fm_lt _ _
          have hFl := fun W => rflat_any _ hqok W
          rw [v2] at hFl
          have hE := rnum_equal ((((flatJ (verQ a (be (S.take 32)) (be (S.drop 32)) (be M))).1 : Nat) : Int) % NV) (be (S.take 32)) ⟨Int.emod_nonneg _ (by decide), Int.lt_trans (Int.emod_lt_of_pos _ (by decide)) NV_u256.2⟩ (be_u256 b1 lt1)
          have hE0 := rnum_equal (((plusJ (timesR (u1N (be (S.drop 32)) (be M)) gJ 256) (timesR (u2N (be (S.take 32)) (be (S.drop 32))) a 256)).z : Nat) : Int) 0 (nat_u256 hqok.2.2) ⟨by omega, by decide⟩
          rw [rz8_eq] at hE0
          rw [if_pos ⟨q2, q3⟩] at hver0
          refine rverify_walk pv M P S (unpCR P) (words8 (be (S.take 32))) (words8 (be (S.drop 32))) (words8 NV) (words8 (be M)) (nw8 (be M % NV).toNat) (nw8 (wN (be (S.drop 32)))) (nw8 (u1N (be (S.drop 32)) (be M))) (nw8 (u2N (be (S.take 32)) (be (S.drop 32)))) (ptR gJ) (ptR (timesR (u1N (be (S.drop 32)) (be M)) gJ 256)) (ptR (timesR (u2N (be (S.take 32)) (be (S.drop 32))) a 256)) _ _ _ (ptR (plusJ (timesR (u1N (be (S.drop 32)) (be M)) gJ 256) (timesR (u2N (be (S.take 32)) (be (S.drop 32))) a 256))) (nw8 (flatJ (verQ a (be (S.take 32)) (be (S.drop 32)) (be M))).1) (nw8 (flatJ (verQ a (be (S.take 32)) (be (S.drop 32)) (be M))).2) (words8 ((((flatJ (verQ a (be (S.take 32)) (be (S.drop 32)) (be M))).1 : Nat) : Int) % NV)) (keyB (be (S.take 32))) (keyB (be (S.drop 32))) (decide ((((plusJ (timesR (u1N (be (S.drop 32)) (be M)) gJ 256) (timesR (u2N (be (S.take 32)) (be (S.drop 32))) a 256)).z : Nat) : Int) = 0)) false _ g off cap lM hl (unpCR_len _) (words8_length _) (words8_length _) (nw8_len _) (nw8_len _) (nw8_len _) (nw8_len _) rfl (nw8_len _) (nw8_len _) w h2 hsz hg hrow hpv hU hO1 hO2 hK1 hK2
            (.inr ⟨q2, q3, fun W => rn_any W, fun W => rninv_any _ (by omega) k3.2 W, fun v W hr => rof_any v M W hr hM lM, fun W => by rw [← hMI]; exact rnmod_any _ hm W, fun W => rnmul_any _ _ m2 (wN_lt _) W, fun W => rG_any W, fun W => rtimes_any _ gJ hu1 gJ_ok W, hM2, fun W => by rw [hup]; exact rtimes_any _ a hu2 hok W, fun W => rplus_any _ _ (timesR_ok _ 256) (timesR_ok _ 256) W, hE0, ?_⟩)
          rw [hver0]
          by_cases hz : (verQ a (be (S.take 32)) (be (S.drop 32)) (be M)).z = 0
          · exact .inl ⟨decide_eq_true (by rw [v1.2 hz]; rfl), by rw [if_pos hz]⟩
          · exact .inr ⟨decide_eq_false (fun h => hz (v1.1 (by exact_mod_cast h))), hFl, fun W => rnmod_any _ (nat_u256 hfl) W, fun W => by rw [if_neg hz]; exact hE W⟩
        · have hno : ¬ (keyB (be (S.take 32)) = true ∧ keyB (be (S.drop 32)) = true) := fun h => hall (by rw [h.1, h.2]; rfl)
          rw [if_neg hno] at hver0
          rw [hver0]
          exact rverify_walk pv M P S (unpCR P) (words8 (be (S.take 32))) (words8 (be (S.drop 32))) [] [] [] (nw8 0) [] [] [] [] [] (nw8 0) (nw8 0) (nw8 0) _ (nw8 0) (nw8 0) [] (keyB (be (S.take 32))) (keyB (be (S.drop 32))) false false _ g off cap lM hl (unpCR_len _) (words8_length _) (words8_length _) (nw8_len _) (nw8_len _) (nw8_len _) (nw8_len _) rfl (nw8_len _) (nw8_len _) w h2 hsz hg hrow hpv hU hO1 hO2 hK1 hK2
            (.inl ⟨by simpa using hall, rfl⟩)
  · have hver : verV P M S = false := by unfold verV; rw [if_neg hl]
    rw [hver]
    exact rverno_walk pv _ M P _ (unpN P).isSome sa S.length cap rfl (fun _ => hl) (by omega) (unpCR_len P) w hpv hU
end Go.Proofs.Ytajipagpdphejaa
