/- curve's group: lift, over letters. No condition. -/
import Derived.Test.YtlofddoojkeakaaDoorGC3
namespace Go.Proofs.YtlofddoojkeakaaDoor
set_option linter.unusedVariables false
set_option linter.unusedSimpArgs false
open Go Go.RowKit Cv

theorem cu_neq {P : Program} {ops : Array Oper} {rest : List Oper} {o : Oper} {a : Act} {w : World} {Q : Exit → Act → World → Prop} (hw : Region.wanted o (yielded ops a.tmps) = true) (t t' : TypeId) (x y : Operand) (ho : o.op = .binOp .neq t x y t') (A B : Array Value) (hx : a.eval x = .agg A) (hy : a.eval y = .agg B) (r : Bool)
    (hE : ∀ W, (Op.equalIn 10000 t (.agg A) (.agg B)).run P W = .ok r W) (hm : P.eqGuardType P.depth t = false) (h : wpList P ops Q rest (a.put o.dst (.bool (!r))) w) : wpList P ops Q (o :: rest) a w :=
  BigFrame.wpList_want hw fun _ hK => by
    unfold Oper.wp
    rw [cu_run_neq t t' x y ho A B hx hy r hE hm]
    exact hK _ _ h
set_option maxRecDepth 100000 in
set_option maxHeartbeats 8000000 in
theorem liftno_walk (gg : Nat) (X C1 C2 S SV MM RO R1 R2 Y YY ONE : List Int) (od : Int) (lX : X.length = 4) (lS : S.length = 4) (lSV : SV.length = 4) (lMM : MM.length = 4) (lRO : RO.length = 4) (lY : Y.length = 4) (w : World) (hMM : Row w gg 0 (MM.map (Value.int .u64)))
    (hB7 : Tryd.prog.built 70 [(0, .int .u64 7)] = some (SV.map (Value.int .u64)).toArray) (hB1 : Tryd.prog.built 70 [(0, .int .u64 1)] = some (ONE.map (Value.int .u64)).toArray)
    (hC1 : ∀ W, Keeps w W → Calls Tryd.prog 67 #[.pointer (some ⟨gg, 0, none⟩), .agg (X.map (Value.int .u64)).toArray, .agg (X.map (Value.int .u64)).toArray] W fun e w' => e = .returned (.agg (C1.map (Value.int .u64)).toArray) ∧ Keeps W w')
    (hC2 : ∀ W, Keeps w W → Calls Tryd.prog 67 #[.pointer (some ⟨gg, 0, none⟩), .agg (C1.map (Value.int .u64)).toArray, .agg (X.map (Value.int .u64)).toArray] W fun e w' => e = .returned (.agg (C2.map (Value.int .u64)).toArray) ∧ Keeps W w')
    (hC3 : ∀ W, Keeps w W → Calls Tryd.prog 37 #[.pointer (some ⟨gg, 0, none⟩), .agg (C2.map (Value.int .u64)).toArray, .agg (SV.map (Value.int .u64)).toArray] W fun e w' => e = .returned (.agg (S.map (Value.int .u64)).toArray) ∧ Keeps W w')
    (cy : Int) (hPL : ∀ W, Calls Tryd.prog 65 #[.agg (MM.map (Value.int .u64)).toArray, .agg (ONE.map (Value.int .u64)).toArray] W fun e w' => e = .returned (.tuple #[.agg (RO.map (Value.int .u64)).toArray, .int .u64 cy]) ∧ Keeps W w')
    (hH1 : ∀ W, Calls Tryd.prog 79 #[.agg (RO.map (Value.int .u64)).toArray, .int .u64 0] W fun e w' => e = .returned (.agg (R1.map (Value.int .u64)).toArray) ∧ Keeps W w')
    (hH2 : ∀ W, Calls Tryd.prog 79 #[.agg (R1.map (Value.int .u64)).toArray, .int .u64 0] W fun e w' => e = .returned (.agg (R2.map (Value.int .u64)).toArray) ∧ Keeps W w')
    (hPW : ∀ W, Keeps w W → Calls Tryd.prog 78 #[.pointer (some ⟨gg, 0, none⟩), .agg (S.map (Value.int .u64)).toArray, .agg (R2.map (Value.int .u64)).toArray] W fun e w' => e = .returned (.agg (Y.map (Value.int .u64)).toArray) ∧ Keeps W w')
    (hYY : ∀ W, Keeps w W → Calls Tryd.prog 67 #[.pointer (some ⟨gg, 0, none⟩), .agg (Y.map (Value.int .u64)).toArray, .agg (Y.map (Value.int .u64)).toArray] W fun e w' => e = .returned (.agg (YY.map (Value.int .u64)).toArray) ∧ Keeps W w')
    (hE : ∀ W, (Op.equalIn 10000 70 (.agg (YY.map (Value.int .u64)).toArray) (.agg (S.map (Value.int .u64)).toArray)).run Tryd.prog W = .ok false W) :
    Calls Tryd.prog 57 #[.pointer (some ⟨gg, 0, none⟩), .agg (X.map (Value.int .u64)).toArray, .int .u64 od] w fun e w' => e = .returned (.tuple #[.agg ((List.replicate 12 (0 : Int)).map (Value.int .u64)).toArray, .bool false]) ∧ Keeps w w' := by
  have HMM := Lib.hid hMM; have HB7 := Lib.hid hB7; have HB1 := Lib.hid hB1; have HC1 := Lib.hid hC1; have HC2 := Lib.hid hC2; have HC3 := Lib.hid hC3; have HPL := Lib.hid hPL
  have HH1 := Lib.hid (fun W (_ : Keeps w W) => hH1 W); have HH2 := Lib.hid (fun W (_ : Keeps w W) => hH2 W); have HPW := Lib.hid hPW; have HYY := Lib.hid hYY; have HE := Lib.hid hE
  clear hMM hB7 hB1 hC1 hC2 hC3 hPL hH1 hH2 hPW hYY hE
  go_enter Tryd.func57, Tryd.ntmps57
  go_upto_region 1 with (fail)
  refine cu_rows2 (fun W hk hra hrb hs => ?_)
  obtain ⟨p, hp⟩ : ∃ p, p = w.heap.size := ⟨_, rfl⟩
  rw [← hp] at hra hrb hs ⊢
  have hkp : w.heap.size ≤ p := by omega
  obtain ⟨Zr, hZr, hrz⟩ : ∃ Zr : List Value, Zr.length = 12 ∧ Row W (p + 1) 0 Zr := ⟨_, rfl, hrb⟩
  have HRX := Lib.hid (show Row W p 0 (X.map (Value.int .u64)) from hra)
  have HKW := Lib.hid hk; have HRres := Lib.hid hrz
  clear hp hra hrb hrz hk hs
  go_upto_region 2 with (fail)
  refine wp_region_keep 11 [10] [0, 1, 2, 3, 4, 5, 6, 7, 8, 9] (fun _ => zeros4) (by kernel_rfl) (by kernel_rfl) (by intro i hi; simp only [List.mem_cons, List.not_mem_nil, or_false] at hi; (first | (rcases hi with rfl | rfl) | subst hi) <;> exact ⟨_, rfl, alloc_num rfl rfl⟩) ?_
  iterate 3 refine kp (h := ?_)
  refine kl (fun wS hS => (HRX.out.keeps hS)) lX (h := ?_)
  refine kl (fun wS hS => (HRX.out.keeps hS)) lX (h := ?_)
  refine kc (hc := by exact fun wS hS => HC1.out wS (HKW.out.trans hS)) (h := ?_)
  refine kl (fun wS hS => (HRX.out.keeps hS)) lX (h := ?_)
  refine kc (hc := by exact fun wS hS => HC2.out wS (HKW.out.trans hS)) (h := ?_)
  refine kp (hx := by intro wS hS; (refine cu_run_build 70 [(0, .const (.int .u64 7))] ?_ _ ?_ _ HB7.out) <;> rfl) (h := ?_)
  refine kc (hc := by exact fun wS hS => HC3.out wS (HKW.out.trans hS)) (h := ?_)
  refine keep_nil ?_
  intro GG V1 hk1 hG
  obtain ⟨ha10, hz10, hd10⟩ := hG 10 (by simp)
  clear hd10
  simp only [putsA, dstAt, ptrV, kD, kG, kP, Option.bind_some]
  generalize GG 10 = g1 at *
  clear hG
  have HZ10 := Lib.hid hz10; have HB10 := Lib.hid (show _ ≤ _ from ha10)
  clear hz10 ha10
  have HV1 := Lib.hid hk1; clear hk1
  go_upto_region 3 with (first | (refine ws (g := _) (olds := zeros4) HZ10.out lS rfl (h := ?_); intro W2 hr2 hc2; have HN1 := Lib.hid hr2; have HC1 := Lib.hid hc2; clear hr2 hc2))
  have HN := HN1; have HB := HB10
  have HK2 := Lib.hid (nm_keeps_chg HV1.out HC1.out HB.out)
  have hlt_res_g1 := Nat.lt_of_lt_of_le (HRres.out.lt (by intro e; rw [e] at hZr; cases hZr)) HB.out
  have HRX := Lib.hid (HRX.out.keeps HK2.out)
  have HRres := Lib.hid (HRres.out.keeps HK2.out)
  have HKW := Lib.hid (HKW.out.trans HK2.out)
  have HRS := HN
  go_upto_region 4 with (first | (refine wl (HMM.out.keeps HKW.out) lMM (h := ?_)) | (refine cu_build (by kernel_rfl) 70 _ rfl _ ?_ _ HB1.out ?_; focus (simp only [List.map_toArray, List.map_cons, List.map_nil]; rfl)) | (go_at_call 65; refine (HPL.out _).mono ?_; rintro e V1 ⟨rfl, hk1⟩; have HV1 := Lib.hid hk1; clear hk1) | (refine ws (g := V1.heap.size) (olds := zeros4) (Row.new _ _ _ rfl) lRO rfl (h := ?_); intro W2 hr2 hc2; have HN := Lib.hid hr2; have HB := Lib.hid (show _ ≤ _ from HV1.out.size); have HK2 := Lib.hid (nm_keeps_chg (nm_keeps_alloc HV1.out _) hc2 HV1.out.size); clear hr2 hc2))
  generalize V1.heap.size = g2 at *
  have hlt_S_g2 := Nat.lt_of_lt_of_le (HRS.out.lt (map_ne lS)) HB.out
  have HRX := Lib.hid (HRX.out.keeps HK2.out)
  have HRres := Lib.hid (HRres.out.keeps HK2.out)
  have HRS := Lib.hid (HRS.out.keeps HK2.out)
  have HKW := Lib.hid (HKW.out.trans HK2.out)
  have HRRO := HN
  refine wp_region_keep 7 [6] [0, 1, 2, 3, 4, 5] (fun _ => zeros4) (by kernel_rfl) (by kernel_rfl) (by intro i hi; simp only [List.mem_cons, List.not_mem_nil, or_false] at hi; (first | (rcases hi with rfl | rfl) | subst hi) <;> exact ⟨_, rfl, alloc_num rfl rfl⟩) ?_
  refine kp (h := ?_)
  refine kl (fun wS hS => (HRS.out.keeps hS)) lS (h := ?_)
  refine kl (fun wS hS => (HRRO.out.keeps hS)) lRO (h := ?_)
  refine kc (hc := by exact fun wS hS => HH1.out wS (HKW.out.trans hS)) (h := ?_)
  refine kc (hc := by exact fun wS hS => HH2.out wS (HKW.out.trans hS)) (h := ?_)
  refine kc (hc := by exact fun wS hS => HPW.out wS (HKW.out.trans hS)) (h := ?_)
  refine keep_nil ?_
  intro GG V1 hk1 hG
  obtain ⟨ha6, hz6, hd6⟩ := hG 6 (by simp)
  clear hd6
  simp only [putsA, dstAt, ptrV, kD, kG, kP, Option.bind_some]
  generalize GG 6 = g3 at *
  clear hG
  have HZ6 := Lib.hid hz6; have HB6 := Lib.hid (show _ ≤ _ from ha6)
  clear hz6 ha6
  have HV1 := Lib.hid hk1; clear hk1
  go_upto_region 5 with (first | (refine ws (g := _) (olds := zeros4) HZ6.out lY rfl (h := ?_); intro W2 hr2 hc2; have HN1 := Lib.hid hr2; have HC1 := Lib.hid hc2; clear hr2 hc2))
  have HN := HN1; have HB := HB6
  have HK2 := Lib.hid (nm_keeps_chg HV1.out HC1.out HB.out)
  have hlt_RO_g3 := Nat.lt_of_lt_of_le (HRRO.out.lt (map_ne lRO)) HB.out
  have HRX := Lib.hid (HRX.out.keeps HK2.out)
  have HRres := Lib.hid (HRres.out.keeps HK2.out)
  have HRS := Lib.hid (HRS.out.keeps HK2.out)
  have HRRO := Lib.hid (HRRO.out.keeps HK2.out)
  have HKW := Lib.hid (HKW.out.trans HK2.out)
  have HRY := HN
  refine wp_region_keep 5 [] [0, 1, 2, 3, 4] (fun _ => zeros4) (by kernel_rfl) (by kernel_rfl) (by intro i hi; cases hi) ?_
  refine kp (h := ?_)
  refine kl (fun wS hS => (HRY.out.keeps hS)) lY (h := ?_)
  refine kl (fun wS hS => (HRY.out.keeps hS)) lY (h := ?_)
  refine kc (hc := by exact fun wS hS => HYY.out wS (HKW.out.trans hS)) (h := ?_)
  refine kl (fun wS hS => (HRS.out.keeps hS)) lS (h := ?_)
  refine keep_nil ?_
  intro GG V1 hk1 hG
  clear hG
  simp only [putsA, dstAt, ptrV, kD, kG, kP, Option.bind_some]
  have HV1 := Lib.hid hk1; clear hk1
  have HRX := Lib.hid (HRX.out.keeps HV1.out)
  have HRres := Lib.hid (HRres.out.keeps HV1.out)
  have HRS := Lib.hid (HRS.out.keeps HV1.out)
  have HRRO := Lib.hid (HRRO.out.keeps HV1.out)
  have HRY := Lib.hid (HRY.out.keeps HV1.out)
  have HKW := Lib.hid (HKW.out.trans HV1.out)
  go_wp2_with (first | (refine cu_neq (by kernel_rfl) 70 70 (.tmp 44) (.tmp 45) rfl _ _ rfl rfl false HE.out (by kernel_rfl) ?_) | (refine wpList_store_row rfl 76 (.tmp 6) (.tmp 47) rfl _ 0 rfl Zr ((List.replicate 12 (0 : Int)).map (Value.int .u64)) rfl HRres.out (by rw [hZr]; rfl) sz_cpt (int_oneCell _) ?_; intro W2 hr2 hc2; have HN := Lib.hid hr2; have HC := Lib.hid hc2; clear hr2 hc2))
  exact bodyPost_ret (results_cell_tmpB (p := 6) (t := 7) (ty := 76) rfl _ _ (p + 1) 0 _ _ _ rfl rfl HN.out Tryd.underlying76 rfl sz_cpt) rfl ⟨rfl, nm_keeps_chg HKW.out HC.out (by omega)⟩
set_option maxRecDepth 100000 in
set_option maxHeartbeats 8000000 in
theorem liftev_walk (gg : Nat) (X C1 C2 S SV MM RO R1 R2 Y YY ONE : List Int) (od : Int) (RT : List Int) (hRT : RT = X ++ Y ++ ONE) (lONE : ONE.length = 4) (hy0 : 0 ≤ Y.getD 0 0 ∧ Y.getD 0 0 < 18446744073709551616) (hpar : Y.getD 0 0 % 2 = od) (lX : X.length = 4) (lS : S.length = 4) (lSV : SV.length = 4) (lMM : MM.length = 4) (lRO : RO.length = 4) (lY : Y.length = 4) (w : World) (hMM : Row w gg 0 (MM.map (Value.int .u64)))
    (hB7 : Tryd.prog.built 70 [(0, .int .u64 7)] = some (SV.map (Value.int .u64)).toArray) (hB1 : Tryd.prog.built 70 [(0, .int .u64 1)] = some (ONE.map (Value.int .u64)).toArray)
    (hC1 : ∀ W, Keeps w W → Calls Tryd.prog 67 #[.pointer (some ⟨gg, 0, none⟩), .agg (X.map (Value.int .u64)).toArray, .agg (X.map (Value.int .u64)).toArray] W fun e w' => e = .returned (.agg (C1.map (Value.int .u64)).toArray) ∧ Keeps W w')
    (hC2 : ∀ W, Keeps w W → Calls Tryd.prog 67 #[.pointer (some ⟨gg, 0, none⟩), .agg (C1.map (Value.int .u64)).toArray, .agg (X.map (Value.int .u64)).toArray] W fun e w' => e = .returned (.agg (C2.map (Value.int .u64)).toArray) ∧ Keeps W w')
    (hC3 : ∀ W, Keeps w W → Calls Tryd.prog 37 #[.pointer (some ⟨gg, 0, none⟩), .agg (C2.map (Value.int .u64)).toArray, .agg (SV.map (Value.int .u64)).toArray] W fun e w' => e = .returned (.agg (S.map (Value.int .u64)).toArray) ∧ Keeps W w')
    (cy : Int) (hPL : ∀ W, Calls Tryd.prog 65 #[.agg (MM.map (Value.int .u64)).toArray, .agg (ONE.map (Value.int .u64)).toArray] W fun e w' => e = .returned (.tuple #[.agg (RO.map (Value.int .u64)).toArray, .int .u64 cy]) ∧ Keeps W w')
    (hH1 : ∀ W, Calls Tryd.prog 79 #[.agg (RO.map (Value.int .u64)).toArray, .int .u64 0] W fun e w' => e = .returned (.agg (R1.map (Value.int .u64)).toArray) ∧ Keeps W w')
    (hH2 : ∀ W, Calls Tryd.prog 79 #[.agg (R1.map (Value.int .u64)).toArray, .int .u64 0] W fun e w' => e = .returned (.agg (R2.map (Value.int .u64)).toArray) ∧ Keeps W w')
    (hPW : ∀ W, Keeps w W → Calls Tryd.prog 78 #[.pointer (some ⟨gg, 0, none⟩), .agg (S.map (Value.int .u64)).toArray, .agg (R2.map (Value.int .u64)).toArray] W fun e w' => e = .returned (.agg (Y.map (Value.int .u64)).toArray) ∧ Keeps W w')
    (hYY : ∀ W, Keeps w W → Calls Tryd.prog 67 #[.pointer (some ⟨gg, 0, none⟩), .agg (Y.map (Value.int .u64)).toArray, .agg (Y.map (Value.int .u64)).toArray] W fun e w' => e = .returned (.agg (YY.map (Value.int .u64)).toArray) ∧ Keeps W w')
    (hE : ∀ W, (Op.equalIn 10000 70 (.agg (YY.map (Value.int .u64)).toArray) (.agg (S.map (Value.int .u64)).toArray)).run Tryd.prog W = .ok true W) :
    Calls Tryd.prog 57 #[.pointer (some ⟨gg, 0, none⟩), .agg (X.map (Value.int .u64)).toArray, .int .u64 od] w fun e w' => e = .returned (.tuple #[.agg (RT.map (Value.int .u64)).toArray, .bool true]) ∧ Keeps w w' := by
  have hBP := built_cpt lX lY lONE
  rw [← hRT] at hBP
  have HBP := Lib.hid hBP
  have lRT : RT.length = 12 := by rw [hRT]; exact len3 lX lY lONE
  clear hBP hRT
  have HMM := Lib.hid hMM; have HB7 := Lib.hid hB7; have HB1 := Lib.hid hB1; have HC1 := Lib.hid hC1; have HC2 := Lib.hid hC2; have HC3 := Lib.hid hC3; have HPL := Lib.hid hPL
  have HH1 := Lib.hid (fun W (_ : Keeps w W) => hH1 W); have HH2 := Lib.hid (fun W (_ : Keeps w W) => hH2 W); have HPW := Lib.hid hPW; have HYY := Lib.hid hYY; have HE := Lib.hid hE
  clear hMM hB7 hB1 hC1 hC2 hC3 hPL hH1 hH2 hPW hYY hE
  go_enter Tryd.func57, Tryd.ntmps57
  go_upto_region 1 with (fail)
  refine cu_rows2 (fun W hk hra hrb hs => ?_)
  obtain ⟨p, hp⟩ : ∃ p, p = w.heap.size := ⟨_, rfl⟩
  rw [← hp] at hra hrb hs ⊢
  have hkp : w.heap.size ≤ p := by omega
  obtain ⟨Zr, hZr, hrz⟩ : ∃ Zr : List Value, Zr.length = 12 ∧ Row W (p + 1) 0 Zr := ⟨_, rfl, hrb⟩
  have HRX := Lib.hid (show Row W p 0 (X.map (Value.int .u64)) from hra)
  have HKW := Lib.hid hk; have HRres := Lib.hid hrz
  clear hp hra hrb hrz hk hs
  go_upto_region 2 with (fail)
  refine wp_region_keep 11 [10] [0, 1, 2, 3, 4, 5, 6, 7, 8, 9] (fun _ => zeros4) (by kernel_rfl) (by kernel_rfl) (by intro i hi; simp only [List.mem_cons, List.not_mem_nil, or_false] at hi; (first | (rcases hi with rfl | rfl) | subst hi) <;> exact ⟨_, rfl, alloc_num rfl rfl⟩) ?_
  iterate 3 refine kp (h := ?_)
  refine kl (fun wS hS => (HRX.out.keeps hS)) lX (h := ?_)
  refine kl (fun wS hS => (HRX.out.keeps hS)) lX (h := ?_)
  refine kc (hc := by exact fun wS hS => HC1.out wS (HKW.out.trans hS)) (h := ?_)
  refine kl (fun wS hS => (HRX.out.keeps hS)) lX (h := ?_)
  refine kc (hc := by exact fun wS hS => HC2.out wS (HKW.out.trans hS)) (h := ?_)
  refine kp (hx := by intro wS hS; (refine cu_run_build 70 [(0, .const (.int .u64 7))] ?_ _ ?_ _ HB7.out) <;> rfl) (h := ?_)
  refine kc (hc := by exact fun wS hS => HC3.out wS (HKW.out.trans hS)) (h := ?_)
  refine keep_nil ?_
  intro GG V1 hk1 hG
  obtain ⟨ha10, hz10, hd10⟩ := hG 10 (by simp)
  clear hd10
  simp only [putsA, dstAt, ptrV, kD, kG, kP, Option.bind_some]
  generalize GG 10 = g1 at *
  clear hG
  have HZ10 := Lib.hid hz10; have HB10 := Lib.hid (show _ ≤ _ from ha10)
  clear hz10 ha10
  have HV1 := Lib.hid hk1; clear hk1
  go_upto_region 3 with (first | (refine ws (g := _) (olds := zeros4) HZ10.out lS rfl (h := ?_); intro W2 hr2 hc2; have HN1 := Lib.hid hr2; have HC1 := Lib.hid hc2; clear hr2 hc2))
  have HN := HN1; have HB := HB10
  have HK2 := Lib.hid (nm_keeps_chg HV1.out HC1.out HB.out)
  have hlt_res_g1 := Nat.lt_of_lt_of_le (HRres.out.lt (by intro e; rw [e] at hZr; cases hZr)) HB.out
  have HRX := Lib.hid (HRX.out.keeps HK2.out)
  have HRres := Lib.hid (HRres.out.keeps HK2.out)
  have HKW := Lib.hid (HKW.out.trans HK2.out)
  have HRS := HN
  go_upto_region 4 with (first | (refine wl (HMM.out.keeps HKW.out) lMM (h := ?_)) | (refine cu_build (by kernel_rfl) 70 _ rfl _ ?_ _ HB1.out ?_; focus (simp only [List.map_toArray, List.map_cons, List.map_nil]; rfl)) | (go_at_call 65; refine (HPL.out _).mono ?_; rintro e V1 ⟨rfl, hk1⟩; have HV1 := Lib.hid hk1; clear hk1) | (refine ws (g := V1.heap.size) (olds := zeros4) (Row.new _ _ _ rfl) lRO rfl (h := ?_); intro W2 hr2 hc2; have HN := Lib.hid hr2; have HB := Lib.hid (show _ ≤ _ from HV1.out.size); have HK2 := Lib.hid (nm_keeps_chg (nm_keeps_alloc HV1.out _) hc2 HV1.out.size); clear hr2 hc2))
  generalize V1.heap.size = g2 at *
  have hlt_S_g2 := Nat.lt_of_lt_of_le (HRS.out.lt (map_ne lS)) HB.out
  have HRX := Lib.hid (HRX.out.keeps HK2.out)
  have HRres := Lib.hid (HRres.out.keeps HK2.out)
  have HRS := Lib.hid (HRS.out.keeps HK2.out)
  have HKW := Lib.hid (HKW.out.trans HK2.out)
  have HRRO := HN
  refine wp_region_keep 7 [6] [0, 1, 2, 3, 4, 5] (fun _ => zeros4) (by kernel_rfl) (by kernel_rfl) (by intro i hi; simp only [List.mem_cons, List.not_mem_nil, or_false] at hi; (first | (rcases hi with rfl | rfl) | subst hi) <;> exact ⟨_, rfl, alloc_num rfl rfl⟩) ?_
  refine kp (h := ?_)
  refine kl (fun wS hS => (HRS.out.keeps hS)) lS (h := ?_)
  refine kl (fun wS hS => (HRRO.out.keeps hS)) lRO (h := ?_)
  refine kc (hc := by exact fun wS hS => HH1.out wS (HKW.out.trans hS)) (h := ?_)
  refine kc (hc := by exact fun wS hS => HH2.out wS (HKW.out.trans hS)) (h := ?_)
  refine kc (hc := by exact fun wS hS => HPW.out wS (HKW.out.trans hS)) (h := ?_)
  refine keep_nil ?_
  intro GG V1 hk1 hG
  obtain ⟨ha6, hz6, hd6⟩ := hG 6 (by simp)
  clear hd6
  simp only [putsA, dstAt, ptrV, kD, kG, kP, Option.bind_some]
  generalize GG 6 = g3 at *
  clear hG
  have HZ6 := Lib.hid hz6; have HB6 := Lib.hid (show _ ≤ _ from ha6)
  clear hz6 ha6
  have HV1 := Lib.hid hk1; clear hk1
  go_upto_region 5 with (first | (refine ws (g := _) (olds := zeros4) HZ6.out lY rfl (h := ?_); intro W2 hr2 hc2; have HN1 := Lib.hid hr2; have HC1 := Lib.hid hc2; clear hr2 hc2))
  have HN := HN1; have HB := HB6
  have HK2 := Lib.hid (nm_keeps_chg HV1.out HC1.out HB.out)
  have hlt_RO_g3 := Nat.lt_of_lt_of_le (HRRO.out.lt (map_ne lRO)) HB.out
  have HRX := Lib.hid (HRX.out.keeps HK2.out)
  have HRres := Lib.hid (HRres.out.keeps HK2.out)
  have HRS := Lib.hid (HRS.out.keeps HK2.out)
  have HRRO := Lib.hid (HRRO.out.keeps HK2.out)
  have HKW := Lib.hid (HKW.out.trans HK2.out)
  have HRY := HN
  refine wp_region_keep 5 [] [0, 1, 2, 3, 4] (fun _ => zeros4) (by kernel_rfl) (by kernel_rfl) (by intro i hi; cases hi) ?_
  refine kp (h := ?_)
  refine kl (fun wS hS => (HRY.out.keeps hS)) lY (h := ?_)
  refine kl (fun wS hS => (HRY.out.keeps hS)) lY (h := ?_)
  refine kc (hc := by exact fun wS hS => HYY.out wS (HKW.out.trans hS)) (h := ?_)
  refine kl (fun wS hS => (HRS.out.keeps hS)) lS (h := ?_)
  refine keep_nil ?_
  intro GG V1 hk1 hG
  clear hG
  simp only [putsA, dstAt, ptrV, kD, kG, kP, Option.bind_some]
  have HV1 := Lib.hid hk1; clear hk1
  have HRX := Lib.hid (HRX.out.keeps HV1.out)
  have HRres := Lib.hid (HRres.out.keeps HV1.out)
  have HRS := Lib.hid (HRS.out.keeps HV1.out)
  have HRRO := Lib.hid (HRRO.out.keeps HV1.out)
  have HRY := Lib.hid (HRY.out.keeps HV1.out)
  have HKW := Lib.hid (HKW.out.trans HV1.out)
  have HY0 := Lib.hid hy0
  have c1 := HRY.out.int0 0 (by rw [lY]; decide)
  generalize Y.getD 0 0 = y0 at *
  have hand : bits .and .u64 y0 1 = y0 % 2 := bits_and_one hy0.1 hy0.2
  have z1 : (y0 % 2 != od) = false := by rw [bne_eq_false_iff_eq]; exact hpar
  clear hpar
  go_upto_region 7 with (refine cu_neq (by kernel_rfl) 70 70 (.tmp 44) (.tmp 45) rfl _ _ rfl rfl true HE.out (by kernel_rfl) ?_)
  go_upto_region 9 with (fail)
  go_wp2_with (first | (refine wl HRX.out lX (h := ?_)) | (refine wl HRY.out lY (h := ?_)) | (refine cu_build (by kernel_rfl) 76 _ rfl _ ?_ _ HBP.out ?_; focus (simp only [List.map_toArray, List.map_cons, List.map_nil]; rfl)) | (refine cu_build (by kernel_rfl) 70 _ rfl _ ?_ _ HB1.out ?_; focus (simp only [List.map_toArray, List.map_cons, List.map_nil]; rfl)) | (refine ws HRres.out lRT (by rw [hZr]) (h := ?_); intro W2 hr2 hc2; have HN := Lib.hid hr2; have HC := Lib.hid hc2; clear hr2 hc2))
  exact bodyPost_ret (results_cell_tmpB (p := 6) (t := 7) (ty := 76) rfl _ _ (p + 1) 0 _ _ _ rfl rfl HN.out Tryd.underlying76 rfl (by rw [List.length_map, lRT]; exact sz_cpt)) rfl ⟨rfl, nm_keeps_chg HKW.out HC.out (by omega)⟩
set_option maxRecDepth 100000 in
set_option maxHeartbeats 8000000 in
theorem liftod_walk (gg : Nat) (X C1 C2 S SV MM RO R1 R2 Y YY ONE : List Int) (od : Int) (NY RT : List Int) (hRT : RT = X ++ NY ++ ONE) (lONE : ONE.length = 4) (lNY : NY.length = 4) (hy0 : 0 ≤ Y.getD 0 0 ∧ Y.getD 0 0 < 18446744073709551616) (hpar : ¬ Y.getD 0 0 % 2 = od) (lX : X.length = 4) (lS : S.length = 4) (lSV : SV.length = 4) (lMM : MM.length = 4) (lRO : RO.length = 4) (lY : Y.length = 4) (w : World) (hMM : Row w gg 0 (MM.map (Value.int .u64)))
    (hB7 : Tryd.prog.built 70 [(0, .int .u64 7)] = some (SV.map (Value.int .u64)).toArray) (hB1 : Tryd.prog.built 70 [(0, .int .u64 1)] = some (ONE.map (Value.int .u64)).toArray)
    (hC1 : ∀ W, Keeps w W → Calls Tryd.prog 67 #[.pointer (some ⟨gg, 0, none⟩), .agg (X.map (Value.int .u64)).toArray, .agg (X.map (Value.int .u64)).toArray] W fun e w' => e = .returned (.agg (C1.map (Value.int .u64)).toArray) ∧ Keeps W w')
    (hC2 : ∀ W, Keeps w W → Calls Tryd.prog 67 #[.pointer (some ⟨gg, 0, none⟩), .agg (C1.map (Value.int .u64)).toArray, .agg (X.map (Value.int .u64)).toArray] W fun e w' => e = .returned (.agg (C2.map (Value.int .u64)).toArray) ∧ Keeps W w')
    (hC3 : ∀ W, Keeps w W → Calls Tryd.prog 37 #[.pointer (some ⟨gg, 0, none⟩), .agg (C2.map (Value.int .u64)).toArray, .agg (SV.map (Value.int .u64)).toArray] W fun e w' => e = .returned (.agg (S.map (Value.int .u64)).toArray) ∧ Keeps W w')
    (cy : Int) (hPL : ∀ W, Calls Tryd.prog 65 #[.agg (MM.map (Value.int .u64)).toArray, .agg (ONE.map (Value.int .u64)).toArray] W fun e w' => e = .returned (.tuple #[.agg (RO.map (Value.int .u64)).toArray, .int .u64 cy]) ∧ Keeps W w')
    (hH1 : ∀ W, Calls Tryd.prog 79 #[.agg (RO.map (Value.int .u64)).toArray, .int .u64 0] W fun e w' => e = .returned (.agg (R1.map (Value.int .u64)).toArray) ∧ Keeps W w')
    (hH2 : ∀ W, Calls Tryd.prog 79 #[.agg (R1.map (Value.int .u64)).toArray, .int .u64 0] W fun e w' => e = .returned (.agg (R2.map (Value.int .u64)).toArray) ∧ Keeps W w')
    (hPW : ∀ W, Keeps w W → Calls Tryd.prog 78 #[.pointer (some ⟨gg, 0, none⟩), .agg (S.map (Value.int .u64)).toArray, .agg (R2.map (Value.int .u64)).toArray] W fun e w' => e = .returned (.agg (Y.map (Value.int .u64)).toArray) ∧ Keeps W w')
    (hYY : ∀ W, Keeps w W → Calls Tryd.prog 67 #[.pointer (some ⟨gg, 0, none⟩), .agg (Y.map (Value.int .u64)).toArray, .agg (Y.map (Value.int .u64)).toArray] W fun e w' => e = .returned (.agg (YY.map (Value.int .u64)).toArray) ∧ Keeps W w')
    (hE : ∀ W, (Op.equalIn 10000 70 (.agg (YY.map (Value.int .u64)).toArray) (.agg (S.map (Value.int .u64)).toArray)).run Tryd.prog W = .ok true W)
    (hNG : ∀ W, Keeps w W → Calls Tryd.prog 80 #[.pointer (some ⟨gg, 0, none⟩), .agg (Y.map (Value.int .u64)).toArray] W fun e w' => e = .returned (.agg (NY.map (Value.int .u64)).toArray) ∧ Keeps W w') :
    Calls Tryd.prog 57 #[.pointer (some ⟨gg, 0, none⟩), .agg (X.map (Value.int .u64)).toArray, .int .u64 od] w fun e w' => e = .returned (.tuple #[.agg (RT.map (Value.int .u64)).toArray, .bool true]) ∧ Keeps w w' := by
  have hBP := built_cpt lX lNY lONE
  rw [← hRT] at hBP
  have HBP := Lib.hid hBP
  have lRT : RT.length = 12 := by rw [hRT]; exact len3 lX lNY lONE
  clear hBP hRT
  have HNG := Lib.hid hNG; clear hNG
  have HMM := Lib.hid hMM; have HB7 := Lib.hid hB7; have HB1 := Lib.hid hB1; have HC1 := Lib.hid hC1; have HC2 := Lib.hid hC2; have HC3 := Lib.hid hC3; have HPL := Lib.hid hPL
  have HH1 := Lib.hid (fun W (_ : Keeps w W) => hH1 W); have HH2 := Lib.hid (fun W (_ : Keeps w W) => hH2 W); have HPW := Lib.hid hPW; have HYY := Lib.hid hYY; have HE := Lib.hid hE
  clear hMM hB7 hB1 hC1 hC2 hC3 hPL hH1 hH2 hPW hYY hE
  go_enter Tryd.func57, Tryd.ntmps57
  go_upto_region 1 with (fail)
  refine cu_rows2 (fun W hk hra hrb hs => ?_)
  obtain ⟨p, hp⟩ : ∃ p, p = w.heap.size := ⟨_, rfl⟩
  rw [← hp] at hra hrb hs ⊢
  have hkp : w.heap.size ≤ p := by omega
  obtain ⟨Zr, hZr, hrz⟩ : ∃ Zr : List Value, Zr.length = 12 ∧ Row W (p + 1) 0 Zr := ⟨_, rfl, hrb⟩
  have HRX := Lib.hid (show Row W p 0 (X.map (Value.int .u64)) from hra)
  have HKW := Lib.hid hk; have HRres := Lib.hid hrz
  clear hp hra hrb hrz hk hs
  go_upto_region 2 with (fail)
  refine wp_region_keep 11 [10] [0, 1, 2, 3, 4, 5, 6, 7, 8, 9] (fun _ => zeros4) (by kernel_rfl) (by kernel_rfl) (by intro i hi; simp only [List.mem_cons, List.not_mem_nil, or_false] at hi; (first | (rcases hi with rfl | rfl) | subst hi) <;> exact ⟨_, rfl, alloc_num rfl rfl⟩) ?_
  iterate 3 refine kp (h := ?_)
  refine kl (fun wS hS => (HRX.out.keeps hS)) lX (h := ?_)
  refine kl (fun wS hS => (HRX.out.keeps hS)) lX (h := ?_)
  refine kc (hc := by exact fun wS hS => HC1.out wS (HKW.out.trans hS)) (h := ?_)
  refine kl (fun wS hS => (HRX.out.keeps hS)) lX (h := ?_)
  refine kc (hc := by exact fun wS hS => HC2.out wS (HKW.out.trans hS)) (h := ?_)
  refine kp (hx := by intro wS hS; (refine cu_run_build 70 [(0, .const (.int .u64 7))] ?_ _ ?_ _ HB7.out) <;> rfl) (h := ?_)
  refine kc (hc := by exact fun wS hS => HC3.out wS (HKW.out.trans hS)) (h := ?_)
  refine keep_nil ?_
  intro GG V1 hk1 hG
  obtain ⟨ha10, hz10, hd10⟩ := hG 10 (by simp)
  clear hd10
  simp only [putsA, dstAt, ptrV, kD, kG, kP, Option.bind_some]
  generalize GG 10 = g1 at *
  clear hG
  have HZ10 := Lib.hid hz10; have HB10 := Lib.hid (show _ ≤ _ from ha10)
  clear hz10 ha10
  have HV1 := Lib.hid hk1; clear hk1
  go_upto_region 3 with (first | (refine ws (g := _) (olds := zeros4) HZ10.out lS rfl (h := ?_); intro W2 hr2 hc2; have HN1 := Lib.hid hr2; have HC1 := Lib.hid hc2; clear hr2 hc2))
  have HN := HN1; have HB := HB10
  have HK2 := Lib.hid (nm_keeps_chg HV1.out HC1.out HB.out)
  have hlt_res_g1 := Nat.lt_of_lt_of_le (HRres.out.lt (by intro e; rw [e] at hZr; cases hZr)) HB.out
  have HRX := Lib.hid (HRX.out.keeps HK2.out)
  have HRres := Lib.hid (HRres.out.keeps HK2.out)
  have HKW := Lib.hid (HKW.out.trans HK2.out)
  have HRS := HN
  go_upto_region 4 with (first | (refine wl (HMM.out.keeps HKW.out) lMM (h := ?_)) | (refine cu_build (by kernel_rfl) 70 _ rfl _ ?_ _ HB1.out ?_; focus (simp only [List.map_toArray, List.map_cons, List.map_nil]; rfl)) | (go_at_call 65; refine (HPL.out _).mono ?_; rintro e V1 ⟨rfl, hk1⟩; have HV1 := Lib.hid hk1; clear hk1) | (refine ws (g := V1.heap.size) (olds := zeros4) (Row.new _ _ _ rfl) lRO rfl (h := ?_); intro W2 hr2 hc2; have HN := Lib.hid hr2; have HB := Lib.hid (show _ ≤ _ from HV1.out.size); have HK2 := Lib.hid (nm_keeps_chg (nm_keeps_alloc HV1.out _) hc2 HV1.out.size); clear hr2 hc2))
  generalize V1.heap.size = g2 at *
  have hlt_S_g2 := Nat.lt_of_lt_of_le (HRS.out.lt (map_ne lS)) HB.out
  have HRX := Lib.hid (HRX.out.keeps HK2.out)
  have HRres := Lib.hid (HRres.out.keeps HK2.out)
  have HRS := Lib.hid (HRS.out.keeps HK2.out)
  have HKW := Lib.hid (HKW.out.trans HK2.out)
  have HRRO := HN
  refine wp_region_keep 7 [6] [0, 1, 2, 3, 4, 5] (fun _ => zeros4) (by kernel_rfl) (by kernel_rfl) (by intro i hi; simp only [List.mem_cons, List.not_mem_nil, or_false] at hi; (first | (rcases hi with rfl | rfl) | subst hi) <;> exact ⟨_, rfl, alloc_num rfl rfl⟩) ?_
  refine kp (h := ?_)
  refine kl (fun wS hS => (HRS.out.keeps hS)) lS (h := ?_)
  refine kl (fun wS hS => (HRRO.out.keeps hS)) lRO (h := ?_)
  refine kc (hc := by exact fun wS hS => HH1.out wS (HKW.out.trans hS)) (h := ?_)
  refine kc (hc := by exact fun wS hS => HH2.out wS (HKW.out.trans hS)) (h := ?_)
  refine kc (hc := by exact fun wS hS => HPW.out wS (HKW.out.trans hS)) (h := ?_)
  refine keep_nil ?_
  intro GG V1 hk1 hG
  obtain ⟨ha6, hz6, hd6⟩ := hG 6 (by simp)
  clear hd6
  simp only [putsA, dstAt, ptrV, kD, kG, kP, Option.bind_some]
  generalize GG 6 = g3 at *
  clear hG
  have HZ6 := Lib.hid hz6; have HB6 := Lib.hid (show _ ≤ _ from ha6)
  clear hz6 ha6
  have HV1 := Lib.hid hk1; clear hk1
  go_upto_region 5 with (first | (refine ws (g := _) (olds := zeros4) HZ6.out lY rfl (h := ?_); intro W2 hr2 hc2; have HN1 := Lib.hid hr2; have HC1 := Lib.hid hc2; clear hr2 hc2))
  have HN := HN1; have HB := HB6
  have HK2 := Lib.hid (nm_keeps_chg HV1.out HC1.out HB.out)
  have hlt_RO_g3 := Nat.lt_of_lt_of_le (HRRO.out.lt (map_ne lRO)) HB.out
  have HRX := Lib.hid (HRX.out.keeps HK2.out)
  have HRres := Lib.hid (HRres.out.keeps HK2.out)
  have HRS := Lib.hid (HRS.out.keeps HK2.out)
  have HRRO := Lib.hid (HRRO.out.keeps HK2.out)
  have HKW := Lib.hid (HKW.out.trans HK2.out)
  have HRY := HN
  refine wp_region_keep 5 [] [0, 1, 2, 3, 4] (fun _ => zeros4) (by kernel_rfl) (by kernel_rfl) (by intro i hi; cases hi) ?_
  refine kp (h := ?_)
  refine kl (fun wS hS => (HRY.out.keeps hS)) lY (h := ?_)
  refine kl (fun wS hS => (HRY.out.keeps hS)) lY (h := ?_)
  refine kc (hc := by exact fun wS hS => HYY.out wS (HKW.out.trans hS)) (h := ?_)
  refine kl (fun wS hS => (HRS.out.keeps hS)) lS (h := ?_)
  refine keep_nil ?_
  intro GG V1 hk1 hG
  clear hG
  simp only [putsA, dstAt, ptrV, kD, kG, kP, Option.bind_some]
  have HV1 := Lib.hid hk1; clear hk1
  have HRX := Lib.hid (HRX.out.keeps HV1.out)
  have HRres := Lib.hid (HRres.out.keeps HV1.out)
  have HRS := Lib.hid (HRS.out.keeps HV1.out)
  have HRRO := Lib.hid (HRRO.out.keeps HV1.out)
  have HRY := Lib.hid (HRY.out.keeps HV1.out)
  have HKW := Lib.hid (HKW.out.trans HV1.out)
  have c1 := HRY.out.int0 0 (by rw [lY]; decide)
  generalize Y.getD 0 0 = y0 at *
  have hand : bits .and .u64 y0 1 = y0 % 2 := bits_and_one hy0.1 hy0.2
  have z1 : (y0 % 2 != od) = true := by rw [bne_iff_ne]; exact hpar
  clear hpar
  go_upto_region 7 with (refine cu_neq (by kernel_rfl) 70 70 (.tmp 44) (.tmp 45) rfl _ _ rfl rfl true HE.out (by kernel_rfl) ?_)
  go_upto_region 8 with (fail)
  go_upto_region 9 with (first | (refine wl HRY.out lY (h := ?_)) | (go_at_call 80; refine (HNG.out _ HKW.out).mono ?_; rintro e V2 ⟨rfl, hk1⟩; have HV2 := Lib.hid hk1; clear hk1) | (refine ws (HRY.out.keeps HV2.out) lNY (by rw [List.length_map, lY]) (h := ?_); intro W3 hr2 hc2; have HN3 := Lib.hid hr2; have HC3' := Lib.hid hc2; clear hr2 hc2))
  have HRX := Lib.hid ((HRX.out.keeps HV2.out).chg HC3'.out (by omega))
  have HRres := Lib.hid ((HRres.out.keeps HV2.out).chg HC3'.out (by omega))
  have HKW := Lib.hid (nm_keeps_chg (HKW.out.trans HV2.out) HC3'.out (by omega))
  have HRY := HN3
  go_wp2_with (first | (refine wl HRX.out lX (h := ?_)) | (refine wl HRY.out lNY (h := ?_)) | (refine cu_build (by kernel_rfl) 76 _ rfl _ ?_ _ HBP.out ?_; focus (simp only [List.map_toArray, List.map_cons, List.map_nil]; rfl)) | (refine cu_build (by kernel_rfl) 70 _ rfl _ ?_ _ HB1.out ?_; focus (simp only [List.map_toArray, List.map_cons, List.map_nil]; rfl)) | (refine ws HRres.out lRT (by rw [hZr]) (h := ?_); intro W2 hr2 hc2; have HN := Lib.hid hr2; have HC := Lib.hid hc2; clear hr2 hc2))
  exact bodyPost_ret (results_cell_tmpB (p := 6) (t := 7) (ty := 76) rfl _ _ (p + 1) 0 _ _ _ rfl rfl HN.out Tryd.underlying76 rfl (by rw [List.length_map, lRT]; exact sz_cpt)) rfl ⟨rfl, nm_keeps_chg HKW.out HC.out (by omega)⟩
end Go.Proofs.YtlofddoojkeakaaDoor
