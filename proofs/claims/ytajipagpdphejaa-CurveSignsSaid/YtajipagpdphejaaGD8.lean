/- The program's Verify, over letters. No condition. | The program's Verify on numbers. No condition. -/
import Derived.Test.YtajipagpdphejaaGD7
import Derived.Laws.Cover3
namespace Go.Proofs.Ytajipagpdphejaa
set_option linter.unusedVariables false
set_option linter.unusedSimpArgs false
open Go Go.RowKit Cv

set_option maxRecDepth 100000 in
set_option maxHeartbeats 4000000 in
theorem verlen_walk (pv : Value) (MB : List Int) (sa : Option Addr) (n cap : Nat) (hn : ¬ n = 64) (hn2 : (n : Int) < 9223372036854775808) (w : World) :
    Calls Try.prog 17 #[pv, .agg (MB.map (Value.int .u8)).toArray, .slice sa n cap] w fun e w' => e = .returned (.bool false) ∧ Keeps w w' := by
  have z1 : ((n : Int) != 64) = true := by rw [bne_iff_ne]; omega
  go_enter Try.func17, Try.ntmps17
  go_upto_region 1 with (fail)
  refine cu_rows1 (fun W hk hra hs => ?_)
  clear hra hs
  go_wp2
  go_ret
  exact ⟨rfl, hk⟩
set_option maxRecDepth 100000 in
set_option maxHeartbeats 16000000 in
theorem verify_walk (pv : Value) (MB PL SL UP RR SS MN MI WI U1 U2 GJ T1 T2 SM FX FY RI : List Int) (ub kr ks z q res : Bool) (g off cap : Nat) (lMB : MB.length = 32) (lSL : SL.length = 64) (lUP : UP.length = 12) (lRR : RR.length = 4) (lSS : SS.length = 4) (lWI : WI.length = 4) (lSM : SM.length = 12) (lFX : FX.length = 4) (lFY : FY.length = 4) (w : World)
    (hcap : 64 ≤ cap) (hcap2 : cap < 9223372036854775808) (hg : g < w.heap.size) (hS : Row w g off (SL.map (Value.int .u8))) (hpv : Rd w 1 pv PL.length (PL.map (Value.int .u8)))
    (hUnp : ∀ c W, Row W c 0 gCells → Rd W 1 pv PL.length (PL.map (Value.int .u8)) → Calls Try.prog 37 #[.pointer (some ⟨c, 0, none⟩), pv] W fun e w' => e = .returned (.tuple #[.agg (UP.map (Value.int .u64)).toArray, .bool ub]) ∧ Keeps W w')
    (hKr : ∀ c W, Row W c 0 gCells → Calls Try.prog 29 #[.pointer (some ⟨c, 0, none⟩), .agg ((SL.take 32).map (Value.int .u8)).toArray] W fun e w' => e = .returned (.tuple #[.agg (RR.map (Value.int .u64)).toArray, .bool kr]) ∧ Keeps W w')
    (hKs : ∀ c W, Row W c 0 gCells → Calls Try.prog 29 #[.pointer (some ⟨c, 0, none⟩), .agg ((SL.drop 32).map (Value.int .u8)).toArray] W fun e w' => e = .returned (.tuple #[.agg (SS.map (Value.int .u64)).toArray, .bool ks]) ∧ Keeps W w')
    (hcase : ((ub && kr && ks) = false ∧ res = false) ∨ (ub = true ∧ kr = true ∧ ks = true ∧
      (∀ c W, Row W c 0 gCells → Calls Try.prog 40 #[.pointer (some ⟨c, 7, none⟩), .agg (SS.map (Value.int .u64)).toArray] W fun e w' => e = .returned (.agg (WI.map (Value.int .u64)).toArray) ∧ Keeps W w') ∧
      (∀ v W, Rd W 1 v 32 (MB.map (Value.int .u8)) → Calls Try.prog 44 #[v] W fun e w' => e = .returned (.agg (MN.map (Value.int .u64)).toArray) ∧ Keeps W w') ∧
      (∀ c W, Row W c 0 gCells → Calls Try.prog 43 #[.pointer (some ⟨c, 7, none⟩), .agg (MN.map (Value.int .u64)).toArray] W fun e w' => e = .returned (.agg (MI.map (Value.int .u64)).toArray) ∧ Keeps W w') ∧
      (∀ c W, Row W c 0 gCells → Calls Try.prog 42 #[.pointer (some ⟨c, 7, none⟩), .agg (MI.map (Value.int .u64)).toArray, .agg (WI.map (Value.int .u64)).toArray] W fun e w' => e = .returned (.agg (U1.map (Value.int .u64)).toArray) ∧ Keeps W w') ∧
      (∀ c W, Row W c 0 gCells → Calls Try.prog 32 #[.pointer (some ⟨c, 0, none⟩)] W fun e w' => e = .returned (.agg (GJ.map (Value.int .u64)).toArray) ∧ Keeps W w') ∧
      (∀ c W, Row W c 0 gCells → Calls Try.prog 31 #[.pointer (some ⟨c, 0, none⟩), .agg (U1.map (Value.int .u64)).toArray, .agg (GJ.map (Value.int .u64)).toArray] W fun e w' => e = .returned (.agg (T1.map (Value.int .u64)).toArray) ∧ Keeps W w') ∧
      (∀ c W, Row W c 0 gCells → Calls Try.prog 42 #[.pointer (some ⟨c, 7, none⟩), .agg (RR.map (Value.int .u64)).toArray, .agg (WI.map (Value.int .u64)).toArray] W fun e w' => e = .returned (.agg (U2.map (Value.int .u64)).toArray) ∧ Keeps W w') ∧
      (∀ c W, Row W c 0 gCells → Calls Try.prog 31 #[.pointer (some ⟨c, 0, none⟩), .agg (U2.map (Value.int .u64)).toArray, .agg (UP.map (Value.int .u64)).toArray] W fun e w' => e = .returned (.agg (T2.map (Value.int .u64)).toArray) ∧ Keeps W w') ∧
      (∀ c W, Row W c 0 gCells → Calls Try.prog 41 #[.pointer (some ⟨c, 0, none⟩), .agg (T1.map (Value.int .u64)).toArray, .agg (T2.map (Value.int .u64)).toArray] W fun e w' => e = .returned (.agg (SM.map (Value.int .u64)).toArray) ∧ Keeps W w') ∧
      (∀ c W, Row W c 0 (SM.map (Value.int .u64)) → Calls Try.prog 45 #[.pointer (some ⟨c, 0, none⟩)] W fun e w' => e = .returned (.bool z) ∧ Keeps W w') ∧
      ((z = true ∧ res = false) ∨ (z = false ∧
        (∀ c W, Row W c 0 gCells → Calls Try.prog 46 #[.pointer (some ⟨c, 0, none⟩), .agg (SM.map (Value.int .u64)).toArray] W fun e w' => e = .returned (.tuple #[.agg (FX.map (Value.int .u64)).toArray, .agg (FY.map (Value.int .u64)).toArray]) ∧ Keeps W w') ∧
        (∀ c W, Row W c 0 gCells → Calls Try.prog 43 #[.pointer (some ⟨c, 7, none⟩), .agg (FX.map (Value.int .u64)).toArray] W fun e w' => e = .returned (.agg (RI.map (Value.int .u64)).toArray) ∧ Keeps W w') ∧
        (∀ W, (Op.equalIn 10000 69 (.agg (RI.map (Value.int .u64)).toArray) (.agg (RR.map (Value.int .u64)).toArray)).run Try.prog W = .ok res W))))) :
    Calls Try.prog 17 #[pv, .agg (MB.map (Value.int .u8)).toArray, .slice (some ⟨g, off, none⟩) 64 cap] w fun e w' => e = .returned (.bool res) ∧ Keeps w w' := by
  have HUNP := Lib.hid hUnp; have HKR := Lib.hid hKr; have HKS := Lib.hid hKs; have HCASE := Lib.hid hcase; have HCV := Lib.hid curve_any; have HPV := Lib.hid hpv; have HSL := Lib.hid hS
  clear hUnp hKr hKs hcase hpv hS
  have hsp1 := fun W => run_arrayAt (P := Try.prog) (w := W) 22 5 32 (some ⟨g, off, none⟩) 32 cap Try.underlying22 (Nat.le_refl _)
  have hsp2 := fun W => run_arrayAt (P := Try.prog) (w := W) 22 5 32 (some ⟨g, off + 32, none⟩) 32 (cap - 32) Try.underlying22 (Nat.le_refl _)
  have hc32 : ¬ cap = 32 := by omega
  have hc32' : 32 ≤ cap := by omega
  have hc32i : (32 : Int) ≤ cap := by omega
  have lt1 : (SL.take 32).length = 32 := by rw [List.length_take, lSL]; rfl
  have lt2 : (SL.drop 32).length = 32 := by rw [List.length_drop, lSL]
  have HS1 := Lib.hid (fun W (h : Keeps w W) => show Row W g off ((SL.take 32).map (Value.int .u8)) by rw [List.map_take]; exact (HSL.out.keeps h).take 32)
  have HS2 := Lib.hid (fun W (h : Keeps w W) => show Row W g (off + 32) ((SL.drop 32).map (Value.int .u8)) by rw [List.map_drop]; exact (HSL.out.keeps h).drop 32)
  generalize SL.take 32 = S1 at *
  generalize SL.drop 32 = S2 at *
  clear HSL
  go_enter Try.func17, Try.ntmps17
  go_upto_region 1 with (fail)
  refine cu_rows1 (fun W hk hra hs => ?_)
  obtain ⟨p, hp⟩ : ∃ p, p = w.heap.size := ⟨_, rfl⟩
  rw [← hp] at hra hs hg ⊢
  have HRM := Lib.hid (show Row W p 0 (MB.map (Value.int .u8)) from hra); have HKW := Lib.hid hk
  have hpW : p < W.heap.size := by omega
  clear hp hk hra hs
  go_upto_region 4 with (go_at_call 28; refine (HCV.out _).mono ?_; rintro e W1 ⟨c, rfl, hk1, hgg, hrow⟩; have HK1 := Lib.hid hk1; have HROW := Lib.hid hrow; clear hk1 hrow)
  have HRM := Lib.hid (HRM.out.keeps HK1.out); have HKW := Lib.hid (HKW.out.trans HK1.out)
  have hpW1 : p < W1.heap.size := Nat.lt_of_lt_of_le hpW HK1.out.size
  clear HK1
  go_upto_region 5 with (first | (go_at_call 37; refine (HUNP.out c _ HROW.out (HPV.out.keeps HKW.out)).mono ?_; rintro e W2 ⟨rfl, hk2⟩; have HK2 := Lib.hid hk2; clear hk2) | (refine wpList_store_row rfl 74 (.tmp 8) (.tmp 27) rfl W2.heap.size 0 rfl zeros12 (UP.map (Value.int .u64)) rfl (Row.new _ _ _ rfl) (by rw [List.length_map, lUP]; rfl) (by rw [List.length_map, lUP]; exact sz_cpt) (int_oneCell _) ?_; intro W3 hr2 hc2; have HRU := Lib.hid hr2; have HK3 := Lib.hid (nm_keeps_chg (nm_keeps_alloc HK2.out _) hc2 HK2.out.size); clear hr2 hc2))
  generalize W2.heap.size = u at *
  have HRM := Lib.hid (HRM.out.keeps HK3.out); have HKW := Lib.hid (HKW.out.trans HK3.out); have HROW := Lib.hid (HROW.out.keeps HK3.out)
  have hpW3 : p < W3.heap.size := Nat.lt_of_lt_of_le hpW1 HK3.out.size
  have HSA := Lib.hid (HS1.out _ HKW.out)
  clear HK3 HK2
  go_upto_region 6 with (first | ((with_reducible refine gate_load 22 (.tmp 33) ?_); refine wpList_load_at rfl 22 (.tmp 33) rfl g off rfl (S1.map (Value.int .u8)) _ HSA.out Try.underlying22 rfl (by rw [List.length_map, lt1]; exact sz_b32') ?_) | (go_at_call 29; refine (HKR.out c _ HROW.out).mono ?_; rintro e W4 ⟨rfl, hk2⟩; have HK4 := Lib.hid hk2; clear hk2) | (refine wpList_store_row rfl 69 (.tmp 10) (.tmp 36) rfl W4.heap.size 0 rfl zeros4 (RR.map (Value.int .u64)) rfl (Row.new _ _ _ rfl) (by rw [List.length_map, lRR]; rfl) (by rw [List.length_map, lRR]; exact sz_cnum) (int_oneCell _) ?_; intro W5 hr2 hc2; have HRR := Lib.hid hr2; have HK5 := Lib.hid (nm_keeps_chg (nm_keeps_alloc HK4.out _) hc2 HK4.out.size); clear hr2 hc2))
  generalize W4.heap.size = r at *
  have HRM := Lib.hid (HRM.out.keeps HK5.out); have HKW := Lib.hid (HKW.out.trans HK5.out); have HROW := Lib.hid (HROW.out.keeps HK5.out); have HRU := Lib.hid (HRU.out.keeps HK5.out)
  have hpW5 : p < W5.heap.size := Nat.lt_of_lt_of_le hpW3 HK5.out.size
  have HSB := Lib.hid (HS2.out _ HKW.out)
  clear HK5 HK4 HSA
  go_upto_region 7 with (first | ((with_reducible refine gate_load 22 (.tmp 42) ?_); refine wpList_load_at rfl 22 (.tmp 42) rfl g (off + 32) rfl (S2.map (Value.int .u8)) _ HSB.out Try.underlying22 rfl (by rw [List.length_map, lt2]; exact sz_b32') ?_) | (go_at_call 29; refine (HKS.out c _ HROW.out).mono ?_; rintro e W6 ⟨rfl, hk2⟩; have HK6 := Lib.hid hk2; clear hk2) | (refine wpList_store_row rfl 69 (.tmp 12) (.tmp 45) rfl W6.heap.size 0 rfl zeros4 (SS.map (Value.int .u64)) rfl (Row.new _ _ _ rfl) (by rw [List.length_map, lSS]; rfl) (by rw [List.length_map, lSS]; exact sz_cnum) (int_oneCell _) ?_; intro W7 hr2 hc2; have HRS := Lib.hid hr2; have HK7 := Lib.hid (nm_keeps_chg (nm_keeps_alloc HK6.out _) hc2 HK6.out.size); clear hr2 hc2))
  generalize W6.heap.size = s at *
  have HRM := Lib.hid (HRM.out.keeps HK7.out); have HKW := Lib.hid (HKW.out.trans HK7.out); have HROW := Lib.hid (HROW.out.keeps HK7.out); have HRU := Lib.hid (HRU.out.keeps HK7.out); have HRR := Lib.hid (HRR.out.keeps HK7.out)
  have hpW7 : p < W7.heap.size := Nat.lt_of_lt_of_le hpW5 HK7.out.size
  clear HK7 HK6 HSB hsp1 hsp2
  rcases HCASE.out with ⟨hno, rfl⟩ | ⟨rfl, rfl, rfl, hInv, hNum, hIn, hM1, hBase, hT1, hM2, hT2, hAdd, hInf, hc2⟩
  · clear HCASE
    cases ub
    · go_wp2
      go_ret
      exact ⟨rfl, HKW.out⟩
    · cases kr
      · go_wp2
        go_ret
        exact ⟨rfl, HKW.out⟩
      · cases ks
        · go_wp2
          go_ret
          exact ⟨rfl, HKW.out⟩
        · cases hno
  · have HINV := Lib.hid hInv; have HNUM := Lib.hid hNum; have HIN := Lib.hid hIn; have HM1 := Lib.hid hM1; have HBA := Lib.hid hBase; have HT1 := Lib.hid hT1; have HM2 := Lib.hid hM2; have HT2 := Lib.hid hT2; have HADD := Lib.hid hAdd; have HINF := Lib.hid hInf; have HC2 := Lib.hid hc2
    clear hInv hNum hIn hM1 hBase hT1 hM2 hT2 hAdd hInf hc2 HCASE
    go_upto_region 10 with (fail)
    go_upto_region 11 with (first | (refine wpList_load_at rfl 69 (.tmp 12) rfl _ 0 rfl (SS.map (Value.int .u64)) _ HRS.out Try.underlying69 rfl (by rw [List.length_map, lSS]; exact sz_cnum) ?_) | (go_at_call 40; refine (HINV.out c _ HROW.out).mono ?_; rintro e W8 ⟨rfl, hk2⟩; have HK8 := Lib.hid hk2; clear hk2) | (refine wpList_store_row rfl 69 (.tmp 15) (.tmp 62) rfl W8.heap.size 0 rfl zeros4 (WI.map (Value.int .u64)) rfl (Row.new _ _ _ rfl) (by rw [List.length_map, lWI]; rfl) (by rw [List.length_map, lWI]; exact sz_cnum) (int_oneCell _) ?_; intro W9 hr2 hc2; have HRW := Lib.hid hr2; have HK9 := Lib.hid (nm_keeps_chg (nm_keeps_alloc HK8.out _) hc2 HK8.out.size); clear hr2 hc2))
    generalize W8.heap.size = wi at *
    have HRM := Lib.hid (HRM.out.keeps HK9.out); have HKW := Lib.hid (HKW.out.trans HK9.out); have HROW := Lib.hid (HROW.out.keeps HK9.out); have HRU := Lib.hid (HRU.out.keeps HK9.out); have HRR := Lib.hid (HRR.out.keeps HK9.out)
    have hpW9 : p < W9.heap.size := Nat.lt_of_lt_of_le hpW7 HK9.out.size
    clear HK9 HK8
    have HRDM := Lib.hid (fun W' (hk : Keeps W9 W') => show Rd W' 1 (.slice (some ⟨p, 0, none⟩) 32 32) 32 (MB.map (Value.int .u8)) from Rd.of_row (HRM.out.keeps hk) (by simp [lMB]) (Nat.lt_of_lt_of_le hpW9 hk.size) (by omega) (by unfold maxLen; omega))
    refine wp_region_keep 21 [20] [0, 1, 2, 3, 4, 5, 6, 7, 8, 9, 10, 11, 12, 13, 14, 15, 16, 17, 18, 19] (fun _ => zeros12) (by kernel_rfl) (by kernel_rfl) (by intro i hi; simp only [List.mem_cons, List.not_mem_nil, or_false] at hi; (first | (rcases hi with rfl | rfl) | subst hi) <;> exact ⟨_, rfl, alloc_cpt rfl rfl⟩) ?_
    refine keep_pure (o := ?_) (v := ?_) ?_ ?_ ?_ ?_
    rotate_left 2
    focus (simp only [kG]; exact rfl)
    focus rfl
    focus ((intro wS hS; go_simp) <;> with_reducible rfl)
    try simp only [kP]
    refine keep_pure (o := ?_) (v := ?_) ?_ ?_ ?_ ?_
    rotate_left 2
    focus (simp only [kG]; exact rfl)
    focus rfl
    focus ((intro wS hS; go_simp) <;> with_reducible rfl)
    try simp only [kP]
    refine keep_pure (o := ?_) (v := ?_) ?_ ?_ ?_ ?_
    rotate_left 2
    focus (simp only [kG]; exact rfl)
    focus rfl
    focus ((intro wS hS; go_simp) <;> with_reducible rfl)
    try simp only [kP]
    refine keep_pure (o := ?_) (v := ?_) ?_ ?_ ?_ ?_
    rotate_left 2
    focus (simp only [kG]; exact rfl)
    focus rfl
    focus ((intro wS hS; go_simp) <;> with_reducible rfl)
    try simp only [kP]
    refine keep_pure (o := ?_) (v := ?_) ?_ ?_ ?_ ?_
    rotate_left 2
    focus (simp only [kG]; exact rfl)
    focus rfl
    focus ((intro wS hS; go_simp) <;> with_reducible rfl)
    try simp only [kP]
    refine keep_call (o := ?_) (f := ?_) (args := ?_) (v := ?_) ?_ ?_ ?_ ?_ ?_
    rotate_left 4
    focus (simp only [kG]; exact rfl)
    focus rfl
    focus (intro wS; go_simp; refine ⟨?_, ?_⟩ <;> with_reducible rfl)
    focus (intro wS hS; exact HNUM.out _ wS (HRDM.out wS hS))
    try simp only [kP]
    refine keep_call (o := ?_) (f := ?_) (args := ?_) (v := ?_) ?_ ?_ ?_ ?_ ?_
    rotate_left 4
    focus (simp only [kG]; exact rfl)
    focus rfl
    focus (intro wS; go_simp; refine ⟨?_, ?_⟩ <;> with_reducible rfl)
    focus (intro wS hS; exact HIN.out c wS (HROW.out.keeps hS))
    try simp only [kP]
    refine keep_pure (o := ?_) (v := ?_) ?_ ?_ ?_ ?_
    rotate_left 2
    focus (simp only [kG]; exact rfl)
    focus rfl
    focus (intro wS hS; (refine cu_run_load 69 (.tmp 15) ?_ wi 0 ?_ (WI.map (Value.int .u64)) _ (HRW.out.keeps hS) Try.underlying69 rfl (by rw [List.length_map, lWI]; exact sz_cnum)) <;> rfl)
    try simp only [kP]
    refine keep_call (o := ?_) (f := ?_) (args := ?_) (v := ?_) ?_ ?_ ?_ ?_ ?_
    rotate_left 4
    focus (simp only [kG]; exact rfl)
    focus rfl
    focus (intro wS; go_simp; refine ⟨?_, ?_⟩ <;> with_reducible rfl)
    focus (intro wS hS; exact HM1.out c wS (HROW.out.keeps hS))
    try simp only [kP]
    refine keep_pure (o := ?_) (v := ?_) ?_ ?_ ?_ ?_
    rotate_left 2
    focus (simp only [kG]; exact rfl)
    focus rfl
    focus ((intro wS hS; go_simp) <;> with_reducible rfl)
    try simp only [kP]
    refine keep_call (o := ?_) (f := ?_) (args := ?_) (v := ?_) ?_ ?_ ?_ ?_ ?_
    rotate_left 4
    focus (simp only [kG]; exact rfl)
    focus rfl
    focus (intro wS; go_simp; refine ⟨?_, ?_⟩ <;> with_reducible rfl)
    focus (intro wS hS; exact HBA.out c wS (HROW.out.keeps hS))
    try simp only [kP]
    refine keep_call (o := ?_) (f := ?_) (args := ?_) (v := ?_) ?_ ?_ ?_ ?_ ?_
    rotate_left 4
    focus (simp only [kG]; exact rfl)
    focus rfl
    focus (intro wS; go_simp; refine ⟨?_, ?_⟩ <;> with_reducible rfl)
    focus (intro wS hS; exact HT1.out c wS (HROW.out.keeps hS))
    try simp only [kP]
    refine keep_pure (o := ?_) (v := ?_) ?_ ?_ ?_ ?_
    rotate_left 2
    focus (simp only [kG]; exact rfl)
    focus rfl
    focus ((intro wS hS; go_simp) <;> with_reducible rfl)
    try simp only [kP]
    refine keep_pure (o := ?_) (v := ?_) ?_ ?_ ?_ ?_
    rotate_left 2
    focus (simp only [kG]; exact rfl)
    focus rfl
    focus ((intro wS hS; go_simp) <;> with_reducible rfl)
    try simp only [kP]
    refine keep_pure (o := ?_) (v := ?_) ?_ ?_ ?_ ?_
    rotate_left 2
    focus (simp only [kG]; exact rfl)
    focus rfl
    focus (intro wS hS; (refine cu_run_load 69 (.tmp 10) ?_ r 0 ?_ (RR.map (Value.int .u64)) _ (HRR.out.keeps hS) Try.underlying69 rfl (by rw [List.length_map, lRR]; exact sz_cnum)) <;> rfl)
    try simp only [kP]
    refine keep_pure (o := ?_) (v := ?_) ?_ ?_ ?_ ?_
    rotate_left 2
    focus (simp only [kG]; exact rfl)
    focus rfl
    focus (intro wS hS; (refine cu_run_load 69 (.tmp 15) ?_ wi 0 ?_ (WI.map (Value.int .u64)) _ (HRW.out.keeps hS) Try.underlying69 rfl (by rw [List.length_map, lWI]; exact sz_cnum)) <;> rfl)
    try simp only [kP]
    refine keep_call (o := ?_) (f := ?_) (args := ?_) (v := ?_) ?_ ?_ ?_ ?_ ?_
    rotate_left 4
    focus (simp only [kG]; exact rfl)
    focus rfl
    focus (intro wS; go_simp; refine ⟨?_, ?_⟩ <;> with_reducible rfl)
    focus (intro wS hS; exact HM2.out c wS (HROW.out.keeps hS))
    try simp only [kP]
    refine keep_pure (o := ?_) (v := ?_) ?_ ?_ ?_ ?_
    rotate_left 2
    focus (simp only [kG]; exact rfl)
    focus rfl
    focus (intro wS hS; (refine cu_run_load 74 (.tmp 8) ?_ u 0 ?_ (UP.map (Value.int .u64)) _ (HRU.out.keeps hS) Try.underlying74 rfl (by rw [List.length_map, lUP]; exact sz_cpt)) <;> rfl)
    try simp only [kP]
    refine keep_call (o := ?_) (f := ?_) (args := ?_) (v := ?_) ?_ ?_ ?_ ?_ ?_
    rotate_left 4
    focus (simp only [kG]; exact rfl)
    focus rfl
    focus (intro wS; go_simp; refine ⟨?_, ?_⟩ <;> with_reducible rfl)
    focus (intro wS hS; exact HT2.out c wS (HROW.out.keeps hS))
    try simp only [kP]
    refine keep_call (o := ?_) (f := ?_) (args := ?_) (v := ?_) ?_ ?_ ?_ ?_ ?_
    rotate_left 4
    focus (simp only [kG]; exact rfl)
    focus rfl
    focus (intro wS; go_simp; refine ⟨?_, ?_⟩ <;> with_reducible rfl)
    focus (intro wS hS; exact HADD.out c wS (HROW.out.keeps hS))
    try simp only [kP]
    refine keep_nil ?_
    intro GG V5 hk1 hG
    obtain ⟨ha6, hz6, hd6⟩ := hG 20 (by simp)
    clear hd6
    simp only [putsA, dstAt, Act.put, ptrV, List.drop_succ_cons, List.drop_zero, List.getElem?_toArray, List.getElem?_cons_succ, List.getElem?_cons_zero, Option.bind_some, List.setIfInBounds_toArray, List.set_cons_zero, List.set_cons_succ]
    generalize GG 20 = g3 at *
    clear hG
    have HZ6 := Lib.hid hz6
    have HV1 := Lib.hid hk1; clear hk1 hz6
    go_upto_region 12 with (refine wpList_store_row rfl 74 (.tmp 16) (.tmp 82) rfl _ 0 rfl zeros12 (SM.map (Value.int .u64)) rfl HZ6.out (by rw [List.length_map, lSM]; rfl) (by rw [List.length_map, lSM]; exact sz_cpt) (int_oneCell _) ?_; intro W6 hr2 hc2; have HRQ := Lib.hid hr2; have HK6 := Lib.hid (nm_keeps_chg HV1.out hc2 ha6); clear hr2 hc2)
    have HKW := Lib.hid (HKW.out.trans HK6.out); have HROW := Lib.hid (HROW.out.keeps HK6.out); have HRR := Lib.hid (HRR.out.keeps HK6.out)
    clear HK6 HV1 HZ6 HRDM HRW HRU HRM
    rcases HC2.out with ⟨rfl, rfl⟩ | ⟨rfl, hFl, hIn2, hE⟩
    · go_wp2_with (go_at_call 45; refine (HINF.out g3 _ HRQ.out).mono ?_; rintro e W7 ⟨rfl, hk1⟩; have HK7 := Lib.hid hk1; clear hk1)
      go_ret
      exact ⟨rfl, HKW.out.trans HK7.out⟩
    · have HFL := Lib.hid hFl; have HIN2 := Lib.hid hIn2; have HE := Lib.hid hE
      clear hFl hIn2 hE HC2
      go_upto_region 14 with (go_at_call 45; refine (HINF.out g3 _ HRQ.out).mono ?_; rintro e W7 ⟨rfl, hk1⟩; have HK7 := Lib.hid hk1; clear hk1)
      have HKW := Lib.hid (HKW.out.trans HK7.out); have HROW := Lib.hid (HROW.out.keeps HK7.out); have HRR := Lib.hid (HRR.out.keeps HK7.out); have HRQ := Lib.hid (HRQ.out.keeps HK7.out)
      go_upto_region 15 with (first | (refine wpList_load_at rfl 74 (.tmp 16) rfl _ 0 rfl (SM.map (Value.int .u64)) _ HRQ.out Try.underlying74 rfl (by rw [List.length_map, lSM]; exact sz_cpt) ?_) | (go_at_call 46; refine (HFL.out c _ HROW.out).mono ?_; rintro e V8 ⟨rfl, hk1⟩; have HV8 := Lib.hid hk1; clear hk1) | (refine cu_wl2 (fun Wa hka hr1 hr2 hs2 => ?_); have HKA := Lib.hid (HV8.out.trans hka); have HZ1 := Lib.hid (show Row Wa V8.heap.size 0 zeros4 from hr1); have HZ2 := Lib.hid (show Row Wa (V8.heap.size + 1) 0 zeros4 from hr2); clear hka hr1 hr2 hs2) | (refine wpList_store_row rfl 69 (.tmp 17) (.tmp 88) rfl _ 0 rfl zeros4 (FX.map (Value.int .u64)) rfl HZ1.out (by rw [List.length_map, lFX]; rfl) (by rw [List.length_map, lFX]; exact sz_cnum) (int_oneCell _) ?_; intro Wb hr2 hc2; have HN1 := Lib.hid hr2; have HC1 := Lib.hid hc2; clear hr2 hc2) | (refine wpList_store_row rfl 69 (.tmp 18) (.tmp 89) rfl _ 0 rfl zeros4 (FY.map (Value.int .u64)) rfl (HZ2.out.chg HC1.out (by omega)) (by rw [List.length_map, lFY]; rfl) (by rw [List.length_map, lFY]; exact sz_cnum) (int_oneCell _) ?_; intro Wc hr2 hc2; have HN2 := Lib.hid hr2; have HCB := Lib.hid hc2; clear hr2 hc2))
      have HK2 := Lib.hid (nm_keeps_chg (nm_keeps_chg HKA.out HC1.out HV8.out.size) HCB.out (by have := HV8.out.size; omega))
      have HRX := Lib.hid (HN1.out.chg HCB.out (by omega))
      have HKW := Lib.hid (HKW.out.trans HK2.out); have HROW := Lib.hid (HROW.out.keeps HK2.out); have HRR := Lib.hid (HRR.out.keeps HK2.out)
      generalize V8.heap.size = fx at *
      refine wp_region_keep 4 [] [0, 1, 2, 3] (fun _ => []) (by kernel_rfl) (by kernel_rfl) (by intro i hi; cases hi) ?_
      refine keep_pure (o := ?_) (v := ?_) ?_ ?_ ?_ ?_
      rotate_left 2
      focus (simp only [kG]; exact rfl)
      focus rfl
      focus ((intro wS hS; go_simp) <;> with_reducible rfl)
      try simp only [kP]
      refine keep_pure (o := ?_) (v := ?_) ?_ ?_ ?_ ?_
      rotate_left 2
      focus (simp only [kG]; exact rfl)
      focus rfl
      focus (intro wS hS; (refine cu_run_load 69 (.tmp 17) ?_ fx 0 ?_ (FX.map (Value.int .u64)) _ (HRX.out.keeps hS) Try.underlying69 rfl (by rw [List.length_map, lFX]; exact sz_cnum)) <;> rfl)
      try simp only [kP]
      refine keep_call (o := ?_) (f := ?_) (args := ?_) (v := ?_) ?_ ?_ ?_ ?_ ?_
      rotate_left 4
      focus (simp only [kG]; exact rfl)
      focus rfl
      focus (intro wS; go_simp; refine ⟨?_, ?_⟩ <;> with_reducible rfl)
      focus (intro wS hS; exact HIN2.out c wS (HROW.out.keeps hS))
      try simp only [kP]
      refine keep_pure (o := ?_) (v := ?_) ?_ ?_ ?_ ?_
      rotate_left 2
      focus (simp only [kG]; exact rfl)
      focus rfl
      focus (intro wS hS; (refine cu_run_load 69 (.tmp 10) ?_ r 0 ?_ (RR.map (Value.int .u64)) _ (HRR.out.keeps hS) Try.underlying69 rfl (by rw [List.length_map, lRR]; exact sz_cnum)) <;> rfl)
      try simp only [kP]
      refine keep_nil ?_
      intro GG V9 hk1 hG
      clear hG
      simp only [putsA, dstAt, Act.put, ptrV, List.drop_succ_cons, List.drop_zero, List.getElem?_toArray, List.getElem?_cons_succ, List.getElem?_cons_zero, Option.bind_some, List.setIfInBounds_toArray, List.set_cons_zero, List.set_cons_succ]
      have HKW := Lib.hid (HKW.out.trans hk1)
      clear hk1
      go_wp2_with (refine cu_eql (by kernel_rfl) 69 69 (.tmp 92) (.tmp 93) rfl _ _ rfl rfl res HE.out (by kernel_rfl) ?_)
      go_ret
      exact ⟨rfl, HKW.out⟩
def wN (s : Int) : Nat := s.toNat ^ (nVn - 2) % nVn
def u1N (s m : Int) : Nat := (m % NV).toNat * wN s % nVn
def u2N (r s : Int) : Nat := r.toNat * wN s % nVn
theorem wN_lt (s : Int) : wN s < nVn := Nat.mod_lt _ n_pos
theorem u1N_lt (s m : Int) : u1N s m < nVn := Nat.mod_lt _ n_pos
theorem u2N_lt (r s : Int) : u2N r s < nVn := Nat.mod_lt _ n_pos
def verQ (a : J) (r s m : Int) : J := addJ (timesJ (u1N s m) gJ 256) (timesJ (u2N r s) a 256)
theorem verQ_ok {a : J} (h : a.ok) (r s m : Int) : (verQ a r s m).ok := addJ_ok (timesJ_ok _ gJ_ok 256) (timesJ_ok _ h 256)
/-- is it a signature? -/
def verV (pub msg sig : List Int) : Bool := if sig.length = 64 then (match unpN pub with
  | none => false
  | some a => if keyB (be (sig.take 32)) = true ∧ keyB (be (sig.drop 32)) = true then (if (verQ a (be (sig.take 32)) (be (sig.drop 32)) (be msg)).z = 0 then false else decide ((((flatJ (verQ a (be (sig.take 32)) (be (sig.drop 32)) (be msg))).1 : Nat) : Int) % NV = be (sig.take 32))) else false) else false
theorem nin_any (g : Nat) (x : Int) (hx : U256 x) (w : World) (hr : Row w g 0 gCells) : Calls Try.prog 43 #[.pointer (some ⟨g, 7, none⟩), .agg ((words x).map (Value.int .u64)).toArray] w fun e w' => e = .returned (.agg ((words (x % NV)).map (Value.int .u64)).toArray) ∧ Keeps w w' := by
  have := in_any g 7 NV x NV_u256 hx w (gCells_n hr)
  rwa [in_mod hx.1 hx.2 fld_n.two] at this
theorem ninv_any (g : Nat) (s : Int) (h0 : 0 ≤ s) (h1 : s < NV) (w : World) (hr : Row w g 0 gCells) : Calls Try.prog 40 #[.pointer (some ⟨g, 7, none⟩), .agg ((words s).map (Value.int .u64)).toArray] w fun e w' => e = .returned (.agg ((nw (wN s)).map (Value.int .u64)).toArray) ∧ Keeps w w' := by
  obtain ⟨n1, n2, n3⟩ := nv_toNat h0 h1
  have := inverse_any g 7 nVn _ fld_nn s.toNat n1 w (gc_n hr)
  rw [n3] at this
  exact this
theorem nv_u256 {x : Nat} (h : x < nVn) : U256 (x : Int) := u256_nat (Nat.lt_trans h n_lt)
theorem nmul_any (g : Nat) (x y : Nat) (hx : x < nVn) (hy : y < nVn) (w : World) (hr : Row w g 0 gCells) : Calls Try.prog 42 #[.pointer (some ⟨g, 7, none⟩), .agg ((nw x).map (Value.int .u64)).toArray, .agg ((nw y).map (Value.int .u64)).toArray] w fun e w' => e = .returned (.agg ((nw (x * y % nVn)).map (Value.int .u64)).toArray) ∧ Keeps w w' := by
  have := mul_any g 7 _ _ fld_nn x y (nv_u256 hx) (nv_u256 hy) w (gc_n hr)
  have e : ((x : Int) * (y : Int) % ((nVn : Nat) : Int)) = ((x * y % nVn : Nat) : Int) := by rw [Int.natCast_emod, Int.natCast_mul]
  rwa [e] at this
theorem mod_nat {m : Int} : ((m % NV).toNat : Int) = m % NV ∧ (m % NV).toNat < nVn := by
  have h1 := Int.emod_nonneg m (show NV ≠ 0 by decide)
  have h2 := Int.emod_lt_of_pos m (show 0 < NV by decide)
  have := nv_eq
  exact ⟨by omega, by omega⟩
theorem verify_any (pv sv : Value) (P M S : List Int) (hP : Bytes P) (hM : Bytes M) (hS : Bytes S) (lM : M.length = 32) (w : World) (hpv : Rd w 1 pv P.length (P.map (Value.int .u8))) (hsv : Rd w 1 sv S.length (S.map (Value.int .u8))) :
    Calls Try.prog 17 #[pv, .agg (M.map (Value.int .u8)).toArray, sv] w fun e w' => e = .returned (.bool (verV P M S)) ∧ Keeps w w' := by
  obtain ⟨_, sa, cap, rfl, h2, h3, h4, h5⟩ := hsv
  have hsz : cap < 9223372036854775808 := by unfold maxLen at h3; omega
  by_cases hl : S.length = 64
  · cases sa with
    | none => have := (h4 rfl).1; omega
    | some ad =>
      obtain ⟨g, off, rfl, hg, hrow⟩ := h5 ad rfl (by omega)
      rw [hl] at h2 ⊢
      have lt1 : (S.take 32).length = 32 := by rw [List.length_take, hl]; rfl
      have lt2 : (S.drop 32).length = 32 := by rw [List.length_drop, hl]
      have b1 : Bytes (S.take 32) := fun x h => hS x (List.mem_of_mem_take h)
      have b2 : Bytes (S.drop 32) := fun x h => hS x (List.mem_of_mem_drop h)
      have hU := fun c W hr (hv : Rd W 1 pv P.length (P.map (Value.int .u8))) => unpack_any c pv P hP W hr hv
      have hK1 := fun c W hr => gkey_any c (S.take 32) b1 lt1 W hr
      have hK2 := fun c W hr => gkey_any c (S.drop 32) b2 lt2 W hr
      by_cases hall : ((unpN P).isSome && keyB (be (S.take 32)) && keyB (be (S.drop 32))) = true
      · simp only [Bool.and_eq_true] at hall
        obtain ⟨⟨q1, q2⟩, q3⟩ := hall
        obtain ⟨a, ha⟩ := Option.isSome_iff_exists.1 q1
        obtain ⟨hok, hz1, hon⟩ := unpN_ok hP ha
        have k2 := key_lt q2
        have k3 := key_lt q3
        obtain ⟨r1, r2, r3⟩ := nv_toNat (by omega) k2.2
        have hm := be_u256 hM lM
        obtain ⟨m1, m2⟩ := mod_nat (m := be M)
        have hRR : words (be (S.take 32)) = nw (be (S.take 32)).toNat := by unfold nw; rw [r3]
        have hMI : words (be M % NV) = nw (be M % NV).toNat := by unfold nw; rw [m1]
        have hup : unpC P = ptW a := by unfold unpC; rw [ha]
        have hqok := verQ_ok hok (be (S.take 32)) (be (S.drop 32)) (be M)
        have hM2 := fun c W hr => nmul_any c (be (S.take 32)).toNat (wN (be (S.drop 32))) r2 (wN_lt _) W hr
        rw [← hRR] at hM2
        have hfl : (flatJ (verQ a (be (S.take 32)) (be (S.drop 32)) (be M))).1 < PVn := fm_lt _ _
        have hE := num_equal ((((flatJ (verQ a (be (S.take 32)) (be (S.drop 32)) (be M))).1 : Nat) : Int) % NV) (be (S.take 32)) ⟨Int.emod_nonneg _ (by decide), Int.lt_trans (Int.emod_lt_of_pos _ (by decide)) NV_u256.2⟩ (be_u256 b1 lt1)
        have hver : verV P M S = if (verQ a (be (S.take 32)) (be (S.drop 32)) (be M)).z = 0 then false else decide ((((flatJ (verQ a (be (S.take 32)) (be (S.drop 32)) (be M))).1 : Nat) : Int) % NV = be (S.take 32)) := by
          unfold verV
          rw [if_pos hl, ha]
          dsimp only
          rw [if_pos ⟨q2, q3⟩]
        refine verify_walk pv M P S (unpC P) (words (be (S.take 32))) (words (be (S.drop 32))) (words (be M)) (nw (be M % NV).toNat) (nw (wN (be (S.drop 32)))) (nw (u1N (be (S.drop 32)) (be M))) (nw (u2N (be (S.take 32)) (be (S.drop 32)))) (ptW gJ) (ptW (timesJ (u1N (be (S.drop 32)) (be M)) gJ 256)) (ptW (timesJ (u2N (be (S.take 32)) (be (S.drop 32))) a 256)) (ptW (verQ a (be (S.take 32)) (be (S.drop 32)) (be M))) (nw (flatJ (verQ a (be (S.take 32)) (be (S.drop 32)) (be M))).1) (nw (flatJ (verQ a (be (S.take 32)) (be (S.drop 32)) (be M))).2) (words ((((flatJ (verQ a (be (S.take 32)) (be (S.drop 32)) (be M))).1 : Nat) : Int) % NV)) (unpN P).isSome (keyB (be (S.take 32))) (keyB (be (S.drop 32))) (decide ((verQ a (be (S.take 32)) (be (S.drop 32)) (be M)).z = 0)) false _ g off cap lM hl (unpC_len _) (words_length _) (words_length _) (words_length _) (ptW_len _) (words_length _) (words_length _) w h2 hsz hg hrow hpv hU hK1 hK2
          (.inr ⟨q1, q2, q3, fun c W hr => ninv_any c _ (by omega) k3.2 W hr, fun v W hr => cnumber_any v M W hr hM lM, fun c W hr => by rw [← hMI]; exact nin_any c _ hm W hr, fun c W hr => nmul_any c _ _ m2 (wN_lt _) W hr, fun c W hr => base_any c W hr, fun c W hr => times_any c _ gJ (Nat.lt_trans (u1N_lt _ _) n_lt) gJ_ok W hr, hM2, fun c W hr => by rw [hup]; exact times_any c _ a (Nat.lt_trans (u2N_lt _ _) n_lt) hok W hr, fun c W hr => gadd_any c _ _ (timesJ_ok _ gJ_ok 256) (timesJ_ok _ hok 256) W hr, fun c W hr => infinite_at c _ W hqok.2.2 hr, ?_⟩)
        rw [hver]
        by_cases hz : (verQ a (be (S.take 32)) (be (S.drop 32)) (be M)).z = 0
        · exact .inl ⟨decide_eq_true hz, by rw [if_pos hz]⟩
        · exact .inr ⟨decide_eq_false hz, fun c W hr => flat_any c _ hqok W hr, fun c W hr => nin_any c _ (nat_u256 hfl) W hr, fun W => by rw [if_neg hz]; exact hE W⟩
      · have hver : verV P M S = false := by
          unfold verV
          rw [if_pos hl]
          cases hu : unpN P with
          | none => rfl
          | some a =>
            dsimp only
            rw [if_neg]
            intro h
            apply hall
            rw [hu, h.1, h.2]; rfl
        rw [hver]
        exact verify_walk pv M P S (unpC P) (words (be (S.take 32))) (words (be (S.drop 32))) [] [] (nw 0) [] [] [] [] [] (List.replicate 12 0) (nw 0) (nw 0) [] (unpN P).isSome (keyB (be (S.take 32))) (keyB (be (S.drop 32))) false false _ g off cap lM hl (unpC_len _) (words_length _) (words_length _) (words_length _) rfl (words_length _) (words_length _) w h2 hsz hg hrow hpv hU hK1 hK2
          (.inl ⟨by simpa using hall, rfl⟩)
  · have hver : verV P M S = false := by unfold verV; rw [if_neg hl]
    rw [hver]
    exact verlen_walk pv M sa S.length cap hl (by omega) w
end Go.Proofs.Ytajipagpdphejaa
