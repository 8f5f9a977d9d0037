/- curve's signature: the walk over letters. No condition. -/
import Derived.Test.YtajipagpdphejaaGE1
namespace Go.Proofs.Ytajipagpdphejaa
set_option linter.unusedVariables false
set_option linter.unusedSimpArgs false
open Go Go.RowKit Cv

theorem alloc_b32 {o : Oper} (hg : o.guard = none) (ho : o.op = .alloc 22) : AllocsAs Try.prog o ((List.replicate 32 (0 : Int)).map (Value.int .u8)) := ⟨hg, 22, fun a w => by
  unfold execOp
  simp only [ho]
  go_simp
  rfl⟩
theorem sz_b64 : (Try.prog.info? 56).map (·.size) = some 64 := by kernel_rfl
theorem put64a {A B : List Int} (ha : A.length = 32) : (zeroL64.map (Value.int .u8)).take 0 ++ A.map (Value.int .u8) ++ (zeroL64.map (Value.int .u8)).drop 32 = (A ++ List.replicate 32 0).map (Value.int .u8) := by
  rw [List.take_zero, List.nil_append, List.map_append]; rfl
theorem put64b {A B : List Int} (ha : A.length = 32) (hb : B.length = 32) : ((A ++ List.replicate 32 0).map (Value.int .u8)).take 32 ++ B.map (Value.int .u8) ++ ((A ++ List.replicate 32 0).map (Value.int .u8)).drop 64 = (A ++ B).map (Value.int .u8) := by
  rw [List.map_append, List.take_left' (by rw [List.length_map, ha]), List.drop_eq_nil_of_le (by simp [ha]), List.append_nil, List.map_append]
set_option maxRecDepth 100000 in
set_option maxHeartbeats 8000000 in
theorem sig0_walk (g : Nat) (D E K : List Int) (lK : K.length = 4) (w : World) (hr : Row w g 0 gCells) (hZk : ∀ W, Calls Try.prog 54 #[.agg (K.map (Value.int .u64)).toArray] W fun e w' => e = .returned (.bool true) ∧ Keeps W w') :
    Calls Try.prog 59 #[.pointer (some ⟨g, 0, none⟩), .agg (D.map (Value.int .u64)).toArray, .agg (E.map (Value.int .u64)).toArray, .agg (K.map (Value.int .u64)).toArray] w fun e w' => e = .returned (.tuple #[.agg (zeroL64.map (Value.int .u8)).toArray, .bool false]) ∧ Keeps w w' := by
  have HROW := Lib.hid hr; have HZK := Lib.hid hZk
  clear hr hZk
  go_enter Try.func59, Try.ntmps59
  go_upto_region 1 with (fail)
  refine wp_rows4 (fun W hk hra hrb hrc hrd hs => ?_)
  obtain ⟨p, hp⟩ : ∃ p, p = w.heap.size := ⟨_, rfl⟩
  rw [← hp] at hra hrb hrc hrd hs ⊢
  have hkp : w.heap.size ≤ p := by omega
  obtain ⟨Zr, hZr, hrz⟩ : ∃ Zr : List Value, Zr.length = 64 ∧ Row W (p + 1 + 1 + 1) 0 Zr := ⟨_, rfl, hrd⟩
  have HRK := Lib.hid (show Row W (p + 1 + 1) 0 (K.map (Value.int .u64)) from hrc); have HKW := Lib.hid hk; have HRres := Lib.hid hrz
  have hpW : p + 1 + 1 + 1 < W.heap.size := by omega
  clear hp hk hra hrb hrc hrd hrz hs
  go_upto_region 3 with (fail)
  refine cu_rows1 (fun W1 hk1 hr1 hs1 => ?_)
  have HRO := Lib.hid (show Row W1 W.heap.size 0 (zeroL64.map (Value.int .u8)) from hr1)
  have HRK := Lib.hid (HRK.out.keeps hk1); have HRres := Lib.hid (HRres.out.keeps hk1); have HKW := Lib.hid (HKW.out.trans hk1)
  generalize W.heap.size = o at *
  clear hk1 hr1 hs1
  go_upto_region 4 with (first | (refine wpList_load_at rfl 69 (.tmp 7) rfl _ 0 rfl (K.map (Value.int .u64)) _ HRK.out Try.underlying69 rfl (by rw [List.length_map, lK]; exact sz_cnum) ?_) | (go_at_call 54; refine (HZK.out _).mono ?_; rintro e W2 ⟨rfl, hk2⟩; have HK2 := Lib.hid hk2; clear hk2))
  have HRO := Lib.hid (HRO.out.keeps HK2.out); have HRres := Lib.hid (HRres.out.keeps HK2.out); have HKW := Lib.hid (HKW.out.trans HK2.out)
  go_wp2_with (first | (refine wpList_load_at rfl 56 (.tmp 11) rfl _ 0 rfl (zeroL64.map (Value.int .u8)) _ HRO.out Try.underlying56 rfl sz_b64 ?_) | (refine wpList_store_row rfl 56 (.tmp 8) (.tmp 24) rfl _ 0 rfl Zr (zeroL64.map (Value.int .u8)) rfl HRres.out (by rw [hZr]; rfl) sz_b64 (int_oneCell _) ?_; intro W8 hr2 hc2; have HN := Lib.hid hr2; have HC := Lib.hid hc2; clear hr2 hc2))
  exact bodyPost_ret (results_cell_tmpB (p := 8) (t := 9) (ty := 56) rfl _ _ (p + 1 + 1 + 1) 0 _ _ _ rfl rfl HN.out Try.underlying56 rfl sz_b64) rfl ⟨rfl, nm_keeps_chg HKW.out HC.out (by omega)⟩
set_option maxRecDepth 100000 in
set_option maxHeartbeats 16000000 in
theorem sig_walk (g : Nat) (D E K GJ TM FX FY R I RD ED Z L S BR BS : List Int) (lq zr zs ok : Bool) (lD : D.length = 4) (lE : E.length = 4) (lK : K.length = 4) (lTM : TM.length = 12) (lFX : FX.length = 4) (lFY : FY.length = 4) (lR : R.length = 4) (lI : I.length = 4) (lRD : RD.length = 4) (lED : ED.length = 4) (lZ : Z.length = 4) (lL : L.length = 4) (lBR : BR.length = 32) (lBS : BS.length = 32) (w : World) (hr : Row w g 0 gCells)
    (hZk : ∀ W, Calls Try.prog 54 #[.agg (K.map (Value.int .u64)).toArray] W fun e w' => e = .returned (.bool false) ∧ Keeps W w')
    (hBase : ∀ W, Row W g 0 gCells → Calls Try.prog 32 #[.pointer (some ⟨g, 0, none⟩)] W fun e w' => e = .returned (.agg (GJ.map (Value.int .u64)).toArray) ∧ Keeps W w')
    (hTim : ∀ W, Row W g 0 gCells → Calls Try.prog 31 #[.pointer (some ⟨g, 0, none⟩), .agg (K.map (Value.int .u64)).toArray, .agg (GJ.map (Value.int .u64)).toArray] W fun e w' => e = .returned (.agg (TM.map (Value.int .u64)).toArray) ∧ Keeps W w')
    (hFl : ∀ W, Row W g 0 gCells → Calls Try.prog 46 #[.pointer (some ⟨g, 0, none⟩), .agg (TM.map (Value.int .u64)).toArray] W fun e w' => e = .returned (.tuple #[.agg (FX.map (Value.int .u64)).toArray, .agg (FY.map (Value.int .u64)).toArray]) ∧ Keeps W w')
    (hIn : ∀ W, Row W g 0 gCells → Calls Try.prog 43 #[.pointer (some ⟨g, 7, none⟩), .agg (FX.map (Value.int .u64)).toArray] W fun e w' => e = .returned (.agg (R.map (Value.int .u64)).toArray) ∧ Keeps W w')
    (hInv : ∀ W, Row W g 0 gCells → Calls Try.prog 40 #[.pointer (some ⟨g, 7, none⟩), .agg (K.map (Value.int .u64)).toArray] W fun e w' => e = .returned (.agg (I.map (Value.int .u64)).toArray) ∧ Keeps W w')
    (hM1 : ∀ W, Row W g 0 gCells → Calls Try.prog 42 #[.pointer (some ⟨g, 7, none⟩), .agg (R.map (Value.int .u64)).toArray, .agg (D.map (Value.int .u64)).toArray] W fun e w' => e = .returned (.agg (RD.map (Value.int .u64)).toArray) ∧ Keeps W w')
    (hAd : ∀ W, Row W g 0 gCells → Calls Try.prog 53 #[.pointer (some ⟨g, 7, none⟩), .agg (E.map (Value.int .u64)).toArray, .agg (RD.map (Value.int .u64)).toArray] W fun e w' => e = .returned (.agg (ED.map (Value.int .u64)).toArray) ∧ Keeps W w')
    (hM2 : ∀ W, Row W g 0 gCells → Calls Try.prog 42 #[.pointer (some ⟨g, 7, none⟩), .agg (I.map (Value.int .u64)).toArray, .agg (ED.map (Value.int .u64)).toArray] W fun e w' => e = .returned (.agg (Z.map (Value.int .u64)).toArray) ∧ Keeps W w')
    (hNeg : ∀ W, Row W g 0 gCells → Calls Try.prog 78 #[.pointer (some ⟨g, 7, none⟩), .agg (Z.map (Value.int .u64)).toArray] W fun e w' => e = .returned (.agg (L.map (Value.int .u64)).toArray) ∧ Keeps W w')
    (hLq : ∀ W, Calls Try.prog 79 #[.agg (Z.map (Value.int .u64)).toArray, .agg (L.map (Value.int .u64)).toArray] W fun e w' => e = .returned (.bool lq) ∧ Keeps W w')
    (hS : (lq = true ∧ S = Z) ∨ (lq = false ∧ S = L))
    (hBr : ∀ W, Calls Try.prog 55 #[.agg (R.map (Value.int .u64)).toArray] W fun e w' => e = .returned (.agg (BR.map (Value.int .u8)).toArray) ∧ Keeps W w')
    (hBs : ∀ W, Calls Try.prog 55 #[.agg (S.map (Value.int .u64)).toArray] W fun e w' => e = .returned (.agg (BS.map (Value.int .u8)).toArray) ∧ Keeps W w')
    (hZr : ∀ W, Calls Try.prog 54 #[.agg (R.map (Value.int .u64)).toArray] W fun e w' => e = .returned (.bool zr) ∧ Keeps W w')
    (hZs : ∀ W, Calls Try.prog 54 #[.agg (S.map (Value.int .u64)).toArray] W fun e w' => e = .returned (.bool zs) ∧ Keeps W w')
    (hok : (zr = true ∧ ok = false) ∨ (zr = false ∧ ok = !zs)) :
    Calls Try.prog 59 #[.pointer (some ⟨g, 0, none⟩), .agg (D.map (Value.int .u64)).toArray, .agg (E.map (Value.int .u64)).toArray, .agg (K.map (Value.int .u64)).toArray] w fun e w' => e = .returned (.tuple #[.agg ((BR ++ BS).map (Value.int .u8)).toArray, .bool ok]) ∧ Keeps w w' := by
  have HROW := Lib.hid hr; have HZK := Lib.hid hZk; have HBASE := Lib.hid hBase; have HTIM := Lib.hid hTim; have HFL := Lib.hid hFl; have HIN := Lib.hid hIn; have HINV := Lib.hid hInv; have HM1 := Lib.hid hM1; have HAD := Lib.hid hAd; have HM2 := Lib.hid hM2; have HNEG := Lib.hid hNeg; have HLQ := Lib.hid hLq; have HS := Lib.hid hS; have HBR := Lib.hid hBr; have HBS := Lib.hid hBs; have HZR := Lib.hid hZr; have HZS := Lib.hid hZs; have HOK := Lib.hid hok
  clear hr hZk hBase hTim hFl hIn hInv hM1 hAd hM2 hNeg hLq hS hBr hBs hZr hZs hok
  have lBB : (BR ++ BS).length = 64 := by rw [List.length_append, lBR, lBS]
  have HPA := Lib.hid (put64a (B := BS) lBR); have HPB := Lib.hid (put64b lBR lBS)
  generalize BR ++ BS = BB at *
  go_enter Try.func59, Try.ntmps59
  go_upto_region 1 with (fail)
  refine wp_rows4 (fun W hk hra hrb hrc hrd hs => ?_)
  obtain ⟨p, hp⟩ : ∃ p, p = w.heap.size := ⟨_, rfl⟩
  rw [← hp] at hra hrb hrc hrd hs ⊢
  have hkp : w.heap.size ≤ p := by omega
  obtain ⟨Zr, hZr, hrz⟩ : ∃ Zr : List Value, Zr.length = 64 ∧ Row W (p + 1 + 1 + 1) 0 Zr := ⟨_, rfl, hrd⟩
  have HRD := Lib.hid (show Row W p 0 (D.map (Value.int .u64)) from hra); have HRE := Lib.hid (show Row W (p + 1) 0 (E.map (Value.int .u64)) from hrb); have HRK := Lib.hid (show Row W (p + 1 + 1) 0 (K.map (Value.int .u64)) from hrc); have HKW := Lib.hid hk; have HRres := Lib.hid hrz
  have hpW : p + 1 + 1 + 1 < W.heap.size := by omega
  have HROW := Lib.hid (HROW.out.keeps hk)
  clear hp hk hra hrb hrc hrd hrz hs
  go_upto_region 3 with (fail)
  refine cu_rows1 (fun W1 hk1 hr1 hs1 => ?_)
  have HRO := Lib.hid (show Row W1 W.heap.size 0 (zeroL64.map (Value.int .u8)) from hr1)
  have hoW : W.heap.size < W1.heap.size := by omega
  have hoW0 : p + 1 + 1 + 1 < W.heap.size := hpW
  have HRD := Lib.hid (HRD.out.keeps hk1); have HRE := Lib.hid (HRE.out.keeps hk1); have HRK := Lib.hid (HRK.out.keeps hk1); have HRres := Lib.hid (HRres.out.keeps hk1); have HKW := Lib.hid (HKW.out.trans hk1); have HROW := Lib.hid (HROW.out.keeps hk1)
  generalize W.heap.size = o at *
  clear hk1 hr1 hs1 hpW
  go_upto_region 4 with (first | (refine wpList_load_at rfl 69 (.tmp 7) rfl _ 0 rfl (K.map (Value.int .u64)) _ HRK.out Try.underlying69 rfl (by rw [List.length_map, lK]; exact sz_cnum) ?_) | (go_at_call 54; refine (HZK.out _).mono ?_; rintro e W2 ⟨rfl, hk2⟩; have HK2 := Lib.hid hk2; clear hk2))
  have HRD := Lib.hid (HRD.out.keeps HK2.out); have HRE := Lib.hid (HRE.out.keeps HK2.out); have HRK := Lib.hid (HRK.out.keeps HK2.out); have HRO := Lib.hid (HRO.out.keeps HK2.out); have HRres := Lib.hid (HRres.out.keeps HK2.out); have HKW := Lib.hid (HKW.out.trans HK2.out); have HROW := Lib.hid (HROW.out.keeps HK2.out)
  have hoW : o < W2.heap.size := Nat.lt_of_lt_of_le hoW HK2.out.size
  clear HK2 HZK
  go_upto_region 5 with (fail)
  refine wp_region_st 13 [10, 11] [0, 1, 2, 3, 4, 5, 6, 7, 8, 9] [(12, 10)] (fun _ => zeros4) (fun _ => FX.map (Value.int .u64)) (by kernel_rfl) (by kernel_rfl) (by kernel_rfl) (by simp) (fun _ _ => by rw [List.length_map, lFX]; rfl) (by intro i hi; simp only [List.mem_cons, List.not_mem_nil, or_false] at hi; (first | (rcases hi with rfl | rfl) | subst hi) <;> exact ⟨_, rfl, alloc_num rfl rfl⟩) ?_
  refine keep_pure (o := ?_) (v := ?_) ?_ ?_ ?_ ?_
  rotate_left 2
  focus (simp only [kG]; exact rfl)
  focus rfl
  focus ((intro wS hS; go_simp) <;> with_reducible rfl)
  try simp only [kP]
  refine keep_pure (o := ?_) (v := ?_) ?_ ?_ ?_ ?_
  rotate_left 2
  focus (simp only [kG]; exact rfl)
  focus rfl
  focus ((intro wS hS; go_simp) <;> with_reducible rfl)
  try simp only [kP]
  refine keep_pure (o := ?_) (v := ?_) ?_ ?_ ?_ ?_
  rotate_left 2
  focus (simp only [kG]; exact rfl)
  focus rfl
  focus (intro wS hS; (refine cu_run_load 69 (.tmp 7) ?_ (p + 1 + 1) 0 ?_ (K.map (Value.int .u64)) _ (HRK.out.keeps hS) Try.underlying69 rfl (by rw [List.length_map, lK]; exact sz_cnum)) <;> rfl)
  try simp only [kP]
  refine keep_pure (o := ?_) (v := ?_) ?_ ?_ ?_ ?_
  rotate_left 2
  focus (simp only [kG]; exact rfl)
  focus rfl
  focus ((intro wS hS; go_simp) <;> with_reducible rfl)
  try simp only [kP]
  refine keep_call (o := ?_) (f := ?_) (args := ?_) (v := ?_) ?_ ?_ ?_ ?_ ?_
  rotate_left 4
  focus (simp only [kG]; exact rfl)
  focus rfl
  focus (intro wS; go_simp; refine ⟨?_, ?_⟩ <;> with_reducible rfl)
  focus (intro wS hS; exact HBASE.out wS (HROW.out.keeps hS))
  try simp only [kP]
  refine keep_call (o := ?_) (f := ?_) (args := ?_) (v := ?_) ?_ ?_ ?_ ?_ ?_
  rotate_left 4
  focus (simp only [kG]; exact rfl)
  focus rfl
  focus (intro wS; go_simp; refine ⟨?_, ?_⟩ <;> with_reducible rfl)
  focus (intro wS hS; exact HTIM.out wS (HROW.out.keeps hS))
  try simp only [kP]
  refine keep_call (o := ?_) (f := ?_) (args := ?_) (v := ?_) ?_ ?_ ?_ ?_ ?_
  rotate_left 4
  focus (simp only [kG]; exact rfl)
  focus rfl
  focus (intro wS; go_simp; refine ⟨?_, ?_⟩ <;> with_reducible rfl)
  focus (intro wS hS; exact HFL.out wS (HROW.out.keeps hS))
  try simp only [kP]
  refine keep_pure (o := ?_) (v := ?_) ?_ ?_ ?_ ?_
  rotate_left 2
  focus (simp only [kG]; exact rfl)
  focus rfl
  focus ((intro wS hS; go_simp) <;> with_reducible rfl)
  try simp only [kP]
  refine keep_pure (o := ?_) (v := ?_) ?_ ?_ ?_ ?_
  rotate_left 2
  focus (simp only [kG]; exact rfl)
  focus rfl
  focus ((intro wS hS; go_simp) <;> with_reducible rfl)
  try simp only [kP]
  refine keep_pure (o := ?_) (v := ?_) ?_ ?_ ?_ ?_
  rotate_left 2
  focus (simp only [kG]; exact rfl)
  focus rfl
  focus ((intro wS hS; go_simp) <;> with_reducible rfl)
  try simp only [kP]
  refine keep_nil fun GG => ⟨?_, ?_⟩
  · intro q hq
    rw [List.mem_singleton] at hq
    subst hq
    refine ⟨_, rfl, ?_⟩
    simp only [putsA, dstAt, Act.put, ptrV, List.drop_succ_cons, List.drop_zero, List.getElem?_toArray, List.getElem?_cons_succ, List.getElem?_cons_zero, Option.bind_some, List.setIfInBounds_toArray, List.set_cons_zero, List.set_cons_succ]
    exact putsK_row 69 (.tmp 12) (.tmp 33) (GG 10) _ rfl rfl rfl rfl (by rw [List.length_map, lFX]; exact sz_cnum) (int_oneCell _)
  intro V1 hk1 hG
  obtain ⟨ha12, hz12, hd12⟩ := hG 10 (by simp)
  obtain ⟨ha13, hz13, hd13⟩ := hG 11 (by simp)
  have hne9 := hd12 11 (by simp) (by decide)
  clear hd12 hd13
  simp only [putsA, dstAt, Act.put, ptrV, List.drop_succ_cons, List.drop_zero, List.getElem?_toArray, List.getElem?_cons_succ, List.getElem?_cons_zero, Option.bind_some, List.setIfInBounds_toArray, List.set_cons_zero, List.set_cons_succ]
  have HN1 := Lib.hid (show Row V1 (GG 10) 0 (FX.map (Value.int .u64)) from hz12)
  have HZ13 := Lib.hid (show Row V1 (GG 11) 0 zeros4 from hz13)
  generalize GG 10 = fx at *
  generalize GG 11 = fy at *
  clear hG
  have HV1 := Lib.hid hk1
  clear hz12 hz13 hk1
  have HB13 := Lib.hid (show W2.heap.size ≤ fy from ha13)
  clear ha12 ha13
  go_upto_region 6 with (refine wpList_store_row rfl 69 (.tmp 13) (.tmp 34) rfl _ 0 rfl zeros4 (FY.map (Value.int .u64)) rfl HZ13.out (by rw [List.length_map, lFY]; rfl) (by rw [List.length_map, lFY]; exact sz_cnum) (int_oneCell _) ?_; intro W4 hr2 hc2; have HC2 := Lib.hid hc2; clear hr2 hc2)
  have HK2 := Lib.hid (nm_keeps_chg HV1.out HC2.out HB13.out)
  have HRX := Lib.hid (HN1.out.chg HC2.out (by omega))
  have HRD := Lib.hid (HRD.out.keeps HK2.out); have HRE := Lib.hid (HRE.out.keeps HK2.out); have HRK := Lib.hid (HRK.out.keeps HK2.out); have HRO := Lib.hid (HRO.out.keeps HK2.out); have HRres := Lib.hid (HRres.out.keeps HK2.out); have HKW := Lib.hid (HKW.out.trans HK2.out); have HROW := Lib.hid (HROW.out.keeps HK2.out)
  have hoW : o < W4.heap.size := Nat.lt_of_lt_of_le hoW HK2.out.size
  clear HK2 HC2 HN1 HV1 HZ13 HB13 hne9 HBASE HTIM HFL
  go_upto_region 7 with (first | (refine wpList_load_at rfl 69 (.tmp 12) rfl _ 0 rfl (FX.map (Value.int .u64)) _ HRX.out Try.underlying69 rfl (by rw [List.length_map, lFX]; exact sz_cnum) ?_) | (go_at_call 43; refine (HIN.out _ HROW.out).mono ?_; rintro e W5 ⟨rfl, hk2⟩; have HK5 := Lib.hid hk2; clear hk2) | (refine wpList_store_row rfl 69 (.tmp 14) (.tmp 37) rfl W5.heap.size 0 rfl zeros4 (R.map (Value.int .u64)) rfl (Row.new _ _ _ rfl) (by rw [List.length_map, lR]; rfl) (by rw [List.length_map, lR]; exact sz_cnum) (int_oneCell _) ?_; intro W6 hr2 hc2; have HRR := Lib.hid hr2; have HK6 := Lib.hid (nm_keeps_chg (nm_keeps_alloc HK5.out _) hc2 HK5.out.size); clear hr2 hc2))
  have HRD := Lib.hid (HRD.out.keeps HK6.out); have HRE := Lib.hid (HRE.out.keeps HK6.out); have HRK := Lib.hid (HRK.out.keeps HK6.out); have HRO := Lib.hid (HRO.out.keeps HK6.out); have HRres := Lib.hid (HRres.out.keeps HK6.out); have HKW := Lib.hid (HKW.out.trans HK6.out); have HROW := Lib.hid (HROW.out.keeps HK6.out)
  have horr : o < W5.heap.size := by have := HK5.out.size; omega
  generalize W5.heap.size = rr at *
  have hoW : o < W6.heap.size := Nat.lt_of_lt_of_le hoW HK6.out.size
  clear HK6 HK5 HRX HIN
  refine wp_region_keep 13 [12] [0, 1, 2, 3, 4, 5, 6, 7, 8, 9, 10, 11] (fun _ => zeros4) (by kernel_rfl) (by kernel_rfl) (by intro i hi; simp only [List.mem_cons, List.not_mem_nil, or_false] at hi; (first | (rcases hi with rfl | rfl) | subst hi) <;> exact ⟨_, rfl, alloc_num rfl rfl⟩) ?_
  refine keep_pure (o := ?_) (v := ?_) ?_ ?_ ?_ ?_
  rotate_left 2
  focus (simp only [kG]; exact rfl)
  focus rfl
  focus ((intro wS hS; go_simp) <;> with_reducible rfl)
  try simp only [kP]
  refine keep_pure (o := ?_) (v := ?_) ?_ ?_ ?_ ?_
  rotate_left 2
  focus (simp only [kG]; exact rfl)
  focus rfl
  focus ((intro wS hS; go_simp) <;> with_reducible rfl)
  try simp only [kP]
  refine keep_pure (o := ?_) (v := ?_) ?_ ?_ ?_ ?_
  rotate_left 2
  focus (simp only [kG]; exact rfl)
  focus rfl
  focus (intro wS hS; (refine cu_run_load 69 (.tmp 7) ?_ (p + 1 + 1) 0 ?_ (K.map (Value.int .u64)) _ (HRK.out.keeps hS) Try.underlying69 rfl (by rw [List.length_map, lK]; exact sz_cnum)) <;> rfl)
  try simp only [kP]
  refine keep_call (o := ?_) (f := ?_) (args := ?_) (v := ?_) ?_ ?_ ?_ ?_ ?_
  rotate_left 4
  focus (simp only [kG]; exact rfl)
  focus rfl
  focus (intro wS; go_simp; refine ⟨?_, ?_⟩ <;> with_reducible rfl)
  focus (intro wS hS; exact HINV.out wS (HROW.out.keeps hS))
  try simp only [kP]
  refine keep_pure (o := ?_) (v := ?_) ?_ ?_ ?_ ?_
  rotate_left 2
  focus (simp only [kG]; exact rfl)
  focus rfl
  focus ((intro wS hS; go_simp) <;> with_reducible rfl)
  try simp only [kP]
  refine keep_pure (o := ?_) (v := ?_) ?_ ?_ ?_ ?_
  rotate_left 2
  focus (simp only [kG]; exact rfl)
  focus rfl
  focus (intro wS hS; (refine cu_run_load 69 (.tmp 6) ?_ (p + 1) 0 ?_ (E.map (Value.int .u64)) _ (HRE.out.keeps hS) Try.underlying69 rfl (by rw [List.length_map, lE]; exact sz_cnum)) <;> rfl)
  try simp only [kP]
  refine keep_pure (o := ?_) (v := ?_) ?_ ?_ ?_ ?_
  rotate_left 2
  focus (simp only [kG]; exact rfl)
  focus rfl
  focus ((intro wS hS; go_simp) <;> with_reducible rfl)
  try simp only [kP]
  refine keep_pure (o := ?_) (v := ?_) ?_ ?_ ?_ ?_
  rotate_left 2
  focus (simp only [kG]; exact rfl)
  focus rfl
  focus (intro wS hS; (refine cu_run_load 69 (.tmp 14) ?_ rr 0 ?_ (R.map (Value.int .u64)) _ (HRR.out.keeps hS) Try.underlying69 rfl (by rw [List.length_map, lR]; exact sz_cnum)) <;> rfl)
  try simp only [kP]
  refine keep_pure (o := ?_) (v := ?_) ?_ ?_ ?_ ?_
  rotate_left 2
  focus (simp only [kG]; exact rfl)
  focus rfl
  focus (intro wS hS; (refine cu_run_load 69 (.tmp 5) ?_ p 0 ?_ (D.map (Value.int .u64)) _ (HRD.out.keeps hS) Try.underlying69 rfl (by rw [List.length_map, lD]; exact sz_cnum)) <;> rfl)
  try simp only [kP]
  refine keep_call (o := ?_) (f := ?_) (args := ?_) (v := ?_) ?_ ?_ ?_ ?_ ?_
  rotate_left 4
  focus (simp only [kG]; exact rfl)
  focus rfl
  focus (intro wS; go_simp; refine ⟨?_, ?_⟩ <;> with_reducible rfl)
  focus (intro wS hS; exact HM1.out wS (HROW.out.keeps hS))
  try simp only [kP]
  refine keep_call (o := ?_) (f := ?_) (args := ?_) (v := ?_) ?_ ?_ ?_ ?_ ?_
  rotate_left 4
  focus (simp only [kG]; exact rfl)
  focus rfl
  focus (intro wS; go_simp; refine ⟨?_, ?_⟩ <;> with_reducible rfl)
  focus (intro wS hS; exact HAD.out wS (HROW.out.keeps hS))
  try simp only [kP]
  refine keep_call (o := ?_) (f := ?_) (args := ?_) (v := ?_) ?_ ?_ ?_ ?_ ?_
  rotate_left 4
  focus (simp only [kG]; exact rfl)
  focus rfl
  focus (intro wS; go_simp; refine ⟨?_, ?_⟩ <;> with_reducible rfl)
  focus (intro wS hS; exact HM2.out wS (HROW.out.keeps hS))
  try simp only [kP]
  refine keep_nil ?_
  intro GG V1 hk1 hG
  obtain ⟨ha12, hz12, hd12⟩ := hG 12 (by simp)
  clear hd12
  simp only [putsA, dstAt, Act.put, ptrV, List.drop_succ_cons, List.drop_zero, List.getElem?_toArray, List.getElem?_cons_succ, List.getElem?_cons_zero, Option.bind_some, List.setIfInBounds_toArray, List.set_cons_zero, List.set_cons_succ]
  generalize GG 12 = sz at *
  clear hG
  have HZ12 := Lib.hid hz12; have HV1 := Lib.hid hk1
  clear hz12 hk1
  have hsz6 : W6.heap.size ≤ sz := ha12
  clear ha12
  go_upto_region 8 with (refine wpList_store_row rfl 69 (.tmp 15) (.tmp 49) rfl _ 0 rfl zeros4 (Z.map (Value.int .u64)) rfl HZ12.out (by rw [List.length_map, lZ]; rfl) (by rw [List.length_map, lZ]; exact sz_cnum) (int_oneCell _) ?_; intro W7 hr2 hc2; have HRZ := Lib.hid hr2; have HK7 := Lib.hid (nm_keeps_chg HV1.out hc2 hsz6); clear hr2 hc2)
  have hoz : o < sz := Nat.lt_of_lt_of_le hoW hsz6
  have hrrz : rr < sz := Nat.lt_of_lt_of_le (HRR.out.lt (map_ne lR)) hsz6
  have HRR := Lib.hid (HRR.out.keeps HK7.out); have HRO := Lib.hid (HRO.out.keeps HK7.out); have HRres := Lib.hid (HRres.out.keeps HK7.out); have HKW := Lib.hid (HKW.out.trans HK7.out); have HROW := Lib.hid (HROW.out.keeps HK7.out)
  have hoW : o < W7.heap.size := Nat.lt_of_lt_of_le hoW HK7.out.size
  clear HK7 HV1 HZ12 HINV HM1 HAD HM2 hsz6 HRD HRE HRK
  go_upto_region 9 with (first | (refine wpList_load_at rfl 69 (.tmp 15) rfl _ 0 rfl (Z.map (Value.int .u64)) _ HRZ.out Try.underlying69 rfl (by rw [List.length_map, lZ]; exact sz_cnum) ?_) | (go_at_call 78; refine (HNEG.out _ HROW.out).mono ?_; rintro e W8 ⟨rfl, hk2⟩; have HK8 := Lib.hid hk2; clear hk2) | (refine wpList_store_row rfl 69 (.tmp 16) (.tmp 52) rfl W8.heap.size 0 rfl zeros4 (L.map (Value.int .u64)) rfl (Row.new _ _ _ rfl) (by rw [List.length_map, lL]; rfl) (by rw [List.length_map, lL]; exact sz_cnum) (int_oneCell _) ?_; intro W9 hr2 hc2; have HRL := Lib.hid hr2; have HK9 := Lib.hid (nm_keeps_chg (nm_keeps_alloc HK8.out _) hc2 HK8.out.size); clear hr2 hc2))
  have hzW : sz < W7.heap.size := HRZ.out.lt (map_ne lZ)
  have hlW : W7.heap.size ≤ W8.heap.size := HK8.out.size
  have HRZ := Lib.hid (HRZ.out.keeps HK9.out); have HRR := Lib.hid (HRR.out.keeps HK9.out); have HRO := Lib.hid (HRO.out.keeps HK9.out); have HRres := Lib.hid (HRres.out.keeps HK9.out); have HKW := Lib.hid (HKW.out.trans HK9.out)
  have hoW : o < W9.heap.size := Nat.lt_of_lt_of_le hoW HK9.out.size
  generalize W8.heap.size = ll at *
  clear HK9 HK8 HNEG HROW hlW hzW
  have hws : w.heap.size ≤ sz := by omega
  rcases HS.out with ⟨rfl, hSZ⟩ | ⟨rfl, hSZ⟩
  · have lS : S.length = 4 := by rw [hSZ]; exact lZ
    have HSZ := Lib.hid hSZ
    clear hSZ HS
    go_upto_region 11 with (first | (refine wpList_load_at rfl 69 (.tmp 15) rfl _ 0 rfl (Z.map (Value.int .u64)) _ HRZ.out Try.underlying69 rfl (by rw [List.length_map, lZ]; exact sz_cnum) ?_) | (refine wpList_load_at rfl 69 (.tmp 16) rfl _ 0 rfl (L.map (Value.int .u64)) _ HRL.out Try.underlying69 rfl (by rw [List.length_map, lL]; exact sz_cnum) ?_) | (go_at_call 79; refine (HLQ.out _).mono ?_; rintro e W10 ⟨rfl, hk2⟩; have HK10 := Lib.hid hk2; clear hk2))
    have HRZ := Lib.hid (HRZ.out.keeps HK10.out); have HRL := Lib.hid (HRL.out.keeps HK10.out); have HRR := Lib.hid (HRR.out.keeps HK10.out); have HRO := Lib.hid (HRO.out.keeps HK10.out); have HRres := Lib.hid (HRres.out.keeps HK10.out); have HKW := Lib.hid (HKW.out.trans HK10.out)
    have hoW : o < W10.heap.size := Nat.lt_of_lt_of_le hoW HK10.out.size
    clear HK10
    have HRS := Lib.hid (show Row W10 sz 0 (S.map (Value.int .u64)) by rw [HSZ.out]; exact HRZ.out)
    refine wp_gen (fun W => Keeps w W ∧ Row W sz 0 (S.map (Value.int .u64)) ∧ Row W rr 0 (R.map (Value.int .u64)) ∧ Row W o 0 (zeroL64.map (Value.int .u8)) ∧ Row W (p + 1 + 1 + 1) 0 Zr ∧ o < W.heap.size) ⟨HKW.out, HRS.out, HRR.out, HRO.out, HRres.out, hoW⟩ ?_
    clear HRS HKW HRR HRO HRres hoW HRZ HRL HSZ HLQ
    rintro W12 ⟨hk, hr1, hr2, hr3, hr4, hoW⟩
    have HKW := Lib.hid hk; have HRS := Lib.hid hr1; have HRR := Lib.hid hr2; have HRO := Lib.hid hr3; have HRres := Lib.hid hr4
    clear hk hr1 hr2 hr3 hr4
    refine wp_region_keep 6 [4, 5] [0, 1, 2, 3] (fun _ => (List.replicate 32 (0 : Int)).map (Value.int .u8)) (by kernel_rfl) (by kernel_rfl) (by intro i hi; simp only [List.mem_cons, List.not_mem_nil, or_false] at hi; (first | (rcases hi with rfl | rfl) | subst hi) <;> exact ⟨_, rfl, alloc_b32 rfl rfl⟩) ?_
    refine keep_pure (o := ?_) (v := ?_) ?_ ?_ ?_ ?_
    rotate_left 2
    focus (simp only [kG]; exact rfl)
    focus rfl
    focus (intro wS hS; (refine cu_run_load 69 (.tmp 14) ?_ rr 0 ?_ (R.map (Value.int .u64)) _ (HRR.out.keeps hS) Try.underlying69 rfl (by rw [List.length_map, lR]; exact sz_cnum)) <;> rfl)
    try simp only [kP]
    refine keep_call (o := ?_) (f := ?_) (args := ?_) (v := ?_) ?_ ?_ ?_ ?_ ?_
    rotate_left 4
    focus (simp only [kG]; exact rfl)
    focus rfl
    focus (intro wS; go_simp; refine ⟨?_, ?_⟩ <;> with_reducible rfl)
    focus (intro wS hS; exact HBR.out wS)
    try simp only [kP]
    refine keep_pure (o := ?_) (v := ?_) ?_ ?_ ?_ ?_
    rotate_left 2
    focus (simp only [kG]; exact rfl)
    focus rfl
    focus (intro wS hS; (refine cu_run_load 69 (.tmp 15) ?_ sz 0 ?_ (S.map (Value.int .u64)) _ (HRS.out.keeps hS) Try.underlying69 rfl (by rw [List.length_map, lS]; exact sz_cnum)) <;> rfl)
    try simp only [kP]
    refine keep_call (o := ?_) (f := ?_) (args := ?_) (v := ?_) ?_ ?_ ?_ ?_ ?_
    rotate_left 4
    focus (simp only [kG]; exact rfl)
    focus rfl
    focus (intro wS; go_simp; refine ⟨?_, ?_⟩ <;> with_reducible rfl)
    focus (intro wS hS; exact HBS.out wS)
    try simp only [kP]
    refine keep_nil ?_
    intro GG V1 hk1 hG
    obtain ⟨ha4, hz4, hd4⟩ := hG 4 (by simp)
    obtain ⟨ha5, hz5, hd5⟩ := hG 5 (by simp)
    have hne9 := hd4 5 (by simp) (by decide)
    clear hd4 hd5
    simp only [putsA, dstAt, Act.put, ptrV, List.drop_succ_cons, List.drop_zero, List.getElem?_toArray, List.getElem?_cons_succ, List.getElem?_cons_zero, Option.bind_some, List.setIfInBounds_toArray, List.set_cons_zero, List.set_cons_succ]
    generalize GG 4 = ba at *
    generalize GG 5 = bb at *
    clear hG
    have HZ4 := Lib.hid hz4; have HZ5 := Lib.hid hz5; have HV1 := Lib.hid hk1
    clear hz4 hz5 hk1
    have HB4 := Lib.hid (show W12.heap.size ≤ ba from ha4); have HB5 := Lib.hid (show W12.heap.size ≤ bb from ha5)
    clear ha4 ha5
    go_upto_region 12 with (first | (refine wpList_store_row rfl 22 (.tmp 17) (.tmp 59) rfl _ 0 rfl ((List.replicate 32 (0 : Int)).map (Value.int .u8)) (BR.map (Value.int .u8)) rfl HZ4.out (by rw [List.length_map, lBR]; rfl) (by rw [List.length_map, lBR]; exact sz_b32') (int_oneCell _) ?_; intro W3 hr2 hc2; have HN1 := Lib.hid hr2; have HC1 := Lib.hid hc2; clear hr2 hc2) | (refine wpList_store_row rfl 22 (.tmp 18) (.tmp 61) rfl _ 0 rfl ((List.replicate 32 (0 : Int)).map (Value.int .u8)) (BS.map (Value.int .u8)) rfl (HZ5.out.chg HC1.out (by omega)) (by rw [List.length_map, lBS]; rfl) (by rw [List.length_map, lBS]; exact sz_b32') (int_oneCell _) ?_; intro W4 hr2 hc2; have HRB := Lib.hid hr2; have HC2 := Lib.hid hc2; clear hr2 hc2))
    have HK2 := Lib.hid (nm_keeps_chg (nm_keeps_chg HV1.out HC1.out HB4.out) HC2.out HB5.out)
    have HRA := Lib.hid (HN1.out.chg HC2.out (by omega))
    have hba : ba < W4.heap.size := HRA.out.lt (map_ne lBR)
    have hbb : bb < W4.heap.size := HRB.out.lt (map_ne lBS)
    have hoba : o < ba := Nat.lt_of_lt_of_le hoW HB4.out
    have hobb : o < bb := Nat.lt_of_lt_of_le hoW HB5.out
    have HRR := Lib.hid (HRR.out.keeps HK2.out); have HRS := Lib.hid (HRS.out.keeps HK2.out); have HRO := Lib.hid (HRO.out.keeps HK2.out); have HRres := Lib.hid (HRres.out.keeps HK2.out); have HKW := Lib.hid (HKW.out.trans HK2.out)
    clear HK2 HC1 HC2 HN1 HV1 HZ4 HZ5 HB4 HB5 hne9 HBR HBS hoW
    refine wp_region_quiet_tail 2 (by kernel_rfl) (by kernel_rfl) ?_
    simp only [List.take_succ_cons, List.take_zero, List.drop_succ_cons, List.drop_zero]
    repeat (first | go_big_quiet_step (fail) | quiet_step (fail))
    refine wpQuiet_nil ?_
    intro _ hw'
    obtain ⟨nq, hw''⟩ := hw'
    subst hw''
    refine cu_copy rfl (.tmp 62) (.tmp 63) rfl o 0 64 64 rfl (some ⟨ba, 0, none⟩) 32 32 rfl (by omega) (zeroL64.map (Value.int .u8)) (HRO.out.drewN nq) (by simp [zeroL64]) (BR.map (Value.int .u8)) (Rd.of_row (HRA.out.drewN nq) (by simp [lBR]) (by show ba < W4.heap.size; omega) (by omega) (by unfold maxLen; omega)) (int_oneCell _) (fun W6 hr6 hc6 => ?_)
    have hr6 : Row W6 o 0 ((zeroL64.map (Value.int .u8)).take 0 ++ BR.map (Value.int .u8) ++ (zeroL64.map (Value.int .u8)).drop 32) := hr6
    rw [HPA.out] at hr6
    have HRO := Lib.hid hr6
    have HRres := Lib.hid ((HRres.out.drewN nq).chg hc6 (by omega)); have HRR := Lib.hid ((HRR.out.drewN nq).chg hc6 (by omega)); have HRS := Lib.hid ((HRS.out.drewN nq).chg hc6 (by omega)); have HRB := Lib.hid ((HRB.out.drewN nq).chg hc6 (by omega))
    have hbb : bb < W6.heap.size := Nat.lt_of_lt_of_le (show bb < W4.heap.size from hbb) hc6.size
    have HKW := Lib.hid (nm_keeps_chg (HKW.out.trans (Qt.drewN W4 nq).keeps) hc6 (by omega))
    clear hr6 hc6 HPA HRA hba
    go_upto_region 13 with (fail)
    refine wp_region_quiet_tail 2 (by kernel_rfl) (by kernel_rfl) ?_
    simp only [List.take_succ_cons, List.take_zero, List.drop_succ_cons, List.drop_zero]
    repeat (first | go_big_quiet_step (fail) | quiet_step (fail))
    refine wpQuiet_nil ?_
    intro _ hw'
    obtain ⟨nq, hw''⟩ := hw'
    subst hw''
    refine cu_copy rfl (.tmp 65) (.tmp 66) rfl o 32 32 32 rfl (some ⟨bb, 0, none⟩) 32 32 rfl (Nat.le_refl _) ((BR ++ List.replicate 32 0).map (Value.int .u8)) (HRO.out.drewN nq) (by simp [lBR]) (BS.map (Value.int .u8)) (Rd.of_row (HRB.out.drewN nq) (by simp [lBS]) (by show bb < W6.heap.size; omega) (by omega) (by unfold maxLen; omega)) (int_oneCell _) (fun W7 hr7 hc7 => ?_)
    have hr7 : Row W7 o 0 (((BR ++ List.replicate 32 0).map (Value.int .u8)).take 32 ++ BS.map (Value.int .u8) ++ ((BR ++ List.replicate 32 0).map (Value.int .u8)).drop 64) := hr7
    rw [HPB.out] at hr7
    have HRO := Lib.hid hr7
    have HRres := Lib.hid ((HRres.out.drewN nq).chg hc7 (by omega)); have HRR := Lib.hid ((HRR.out.drewN nq).chg hc7 (by omega)); have HRS := Lib.hid ((HRS.out.drewN nq).chg hc7 (by omega))
    have HKW := Lib.hid (nm_keeps_chg (HKW.out.trans (Qt.drewN W6 nq).keeps) hc7 (by omega))
    clear hr7 hc7 HPB HRB hbb
    go_upto_region 14 with (fail)
    rcases HOK.out with ⟨rfl, rfl⟩ | ⟨rfl, rfl⟩
    · skip
      refine wp_region_head (S := fun W => Hid ((fun W' => Keeps w W' ∧ Row W' rr 0 (R.map (Value.int .u64)) ∧ Row W' sz 0 (S.map (Value.int .u64)) ∧ Row W' o 0 (BB.map (Value.int .u8)) ∧ ∃ Z : List Value, Z.length = 64 ∧ Row W' (p + 1 + 1 + 1) 0 Z) W)) 10 (by kernel_rfl) (by kernel_rfl) ?_ (fun hHeld => ?_)
      focus exact Lib.hid ⟨keeps_drew1 HKW.out, HRR.out.drew, HRS.out.drew, HRO.out.drew, Zr, hZr, HRres.out.drew⟩
      refine wpAnyHL_take (i := 0) (oi := ?_) (v := ?_) ?_ ?_ ?_ ?_ ?_ ?_ ?_ ?_ ?_ (Or.inl ⟨?_, ?_⟩) ?_ ?_
      rotate_left 2
      focus (simp only [kG]; exact rfl)
      iterate 7 focus kernel_rfl
      focus (exact fun _ _ _ h => h)
      focus rfl
      focus (intro wSw hSw; (have hSw := hSw.out); (refine cu_run_load 56 (.tmp 11) ?_ o 0 ?_ _ _ hSw.2.2.2.1 Try.underlying56 rfl (by rw [List.length_map, lBB]; exact sz_b64)) <;> rfl)
      focus assumption
      try simp only [kP]
      refine wpAnyHL_take (i := 1) (oi := ?_) (v := ?_) ?_ ?_ ?_ ?_ ?_ ?_ ?_ ?_ ?_ (Or.inl ⟨?_, ?_⟩) ?_ ?_
      rotate_left 2
      focus (simp only [kG]; exact rfl)
      iterate 7 focus kernel_rfl
      focus (exact fun _ _ _ h => h)
      focus rfl
      focus (intro wSw hSw; (have hSw := hSw.out); (refine cu_run_load 69 (.tmp 14) ?_ rr 0 ?_ _ _ hSw.2.1 Try.underlying69 rfl (by rw [List.length_map, lR]; exact sz_cnum)) <;> rfl)
      focus assumption
      try simp only [kP]
      refine wpAnyHL_one (i := 2) (o := ?_) (by kernel_rfl) (by kernel_rfl) ?_ ?_
      rotate_left 1
      focus (simp only [kG]; exact rfl)
      go_wp2_with (go_at_call 54; refine (HZR.out _).mono ?_; rintro r W5 ⟨rfl, hk5⟩; have HK5 := Lib.hid hk5; clear hk5)
      try dsimp only [StepQ]
      refine ⟨?_, fun hHeld => ?_⟩
      focus (exact Lib.hid (⟨hHeld.out.1.trans HK5.out, hHeld.out.2.1.keeps HK5.out, hHeld.out.2.2.1.keeps HK5.out, hHeld.out.2.2.2.1.keeps HK5.out, hHeld.out.2.2.2.2.imp (fun _ h => ⟨h.1, h.2.keeps HK5.out⟩)⟩))
      try simp only [kP]
      refine wpAnyHL_take (i := 3) (oi := ?_) (v := ?_) ?_ ?_ ?_ ?_ ?_ ?_ ?_ ?_ ?_ (Or.inl ⟨?_, ?_⟩) ?_ ?_
      rotate_left 2
      focus (simp only [kG]; exact rfl)
      iterate 7 focus kernel_rfl
      focus (exact fun _ _ _ h => h)
      focus rfl
      focus ((intro wSw hSw; (have hSw := hSw.out); (try dsimp only at hSw); go_simp) <;> with_reducible rfl)
      focus assumption
      try simp only [kP]
      refine wpAnyHL_take (i := 4) (oi := ?_) (v := ?_) ?_ ?_ ?_ ?_ ?_ ?_ ?_ ?_ ?_ (Or.inl ⟨?_, ?_⟩) ?_ ?_
      rotate_left 2
      focus (simp only [kG]; exact rfl)
      iterate 7 focus kernel_rfl
      focus (exact fun _ _ _ h => h)
      focus rfl
      focus ((intro wSw hSw; (have hSw := hSw.out); (try dsimp only at hSw); go_simp) <;> with_reducible rfl)
      focus assumption
      try simp only [kP]
      refine wpAnyHL_take (i := 5) (oi := ?_) (v := undef) ?_ ?_ ?_ ?_ ?_ ?_ ?_ ?_ ?_ (Or.inr ⟨?_, rfl⟩) ?_ ?_
      rotate_left 1
      focus (simp only [kG]; exact rfl)
      iterate 7 focus kernel_rfl
      focus (exact fun _ _ _ h => h)
      focus rfl
      focus assumption
      try simp only [kP]
      refine wpAnyHL_take (i := 6) (oi := ?_) (v := undef) ?_ ?_ ?_ ?_ ?_ ?_ ?_ ?_ ?_ (Or.inr ⟨?_, rfl⟩) ?_ ?_
      rotate_left 1
      focus (simp only [kG]; exact rfl)
      iterate 7 focus kernel_rfl
      focus (exact fun _ _ _ h => h)
      focus rfl
      focus assumption
      try simp only [kP]
      refine wpAnyHL_take (i := 7) (oi := ?_) (v := undef) ?_ ?_ ?_ ?_ ?_ ?_ ?_ ?_ ?_ (Or.inr ⟨?_, rfl⟩) ?_ ?_
      rotate_left 1
      focus (simp only [kG]; exact rfl)
      iterate 7 focus kernel_rfl
      focus (exact fun _ _ _ h => h)
      focus rfl
      focus assumption
      try simp only [kP]
      refine wpAnyHL_take (i := 8) (oi := ?_) (v := ?_) ?_ ?_ ?_ ?_ ?_ ?_ ?_ ?_ ?_ (Or.inl ⟨?_, ?_⟩) ?_ ?_
      rotate_left 2
      focus (simp only [kG]; exact rfl)
      iterate 7 focus kernel_rfl
      focus (exact fun _ _ _ h => h)
      focus rfl
      focus ((intro wSw hSw; (have hSw := hSw.out); (try dsimp only at hSw); go_simp) <;> with_reducible rfl)
      focus assumption
      try simp only [kP]
      obtain ⟨Z2, hZ2, hrz2⟩ := hHeld.out.2.2.2.2
      have HRZ3 := Lib.hid hrz2
      clear hrz2
      refine wpAnyHL_one (i := 9) (o := ?_) (by kernel_rfl) (by kernel_rfl) ?_ ?_
      rotate_left 1
      focus (simp only [kG]; exact rfl)
      go_wp2_with (refine wpList_store_row rfl 56 (.tmp 8) (.tmp 68) rfl (p + 1 + 1 + 1) 0 rfl Z2 (BB.map (Value.int .u8)) rfl HRZ3.out (by rw [List.length_map, lBB, hZ2]) (by rw [List.length_map, lBB]; exact sz_b64) (int_oneCell _) ?_; intro w9 hr9 hc9; have H9 := Lib.hid hr9; have HC9 := Lib.hid hc9; clear hr9 hc9)
      try dsimp only [StepQ]
      refine ⟨?_, fun hHeld => ?_⟩
      focus (exact Lib.hid (⟨nm_keeps_chg hHeld.out.1 HC9.out (by omega), hHeld.out.2.1.chg HC9.out (by omega), hHeld.out.2.2.1.chg HC9.out (by omega), hHeld.out.2.2.2.1.chg HC9.out (by omega), _, by rw [List.length_map, lBB], H9.out⟩))
      try simp only [kP]
      refine wpAnyHL_done (by kernel_rfl) ?_
      try simp only [List.drop_succ_cons, List.drop_zero]
      go_wp2
      exact bodyPost_ret (results_cell_tmpB (p := 8) (t := 9) (ty := 56) rfl _ _ (p + 1 + 1 + 1) 0 _ _ _ rfl rfl H9.out Try.underlying56 rfl (by rw [List.length_map, lBB]; exact sz_b64)) rfl ⟨by first | rfl | (congr 2), hHeld.out.1⟩
    · skip
      refine wp_region_head (S := fun W => Hid ((fun W' => Keeps w W' ∧ Row W' rr 0 (R.map (Value.int .u64)) ∧ Row W' sz 0 (S.map (Value.int .u64)) ∧ Row W' o 0 (BB.map (Value.int .u8)) ∧ ∃ Z : List Value, Z.length = 64 ∧ Row W' (p + 1 + 1 + 1) 0 Z) W)) 10 (by kernel_rfl) (by kernel_rfl) ?_ (fun hHeld => ?_)
      focus exact Lib.hid ⟨keeps_drew1 HKW.out, HRR.out.drew, HRS.out.drew, HRO.out.drew, Zr, hZr, HRres.out.drew⟩
      refine wpAnyHL_take (i := 0) (oi := ?_) (v := ?_) ?_ ?_ ?_ ?_ ?_ ?_ ?_ ?_ ?_ (Or.inl ⟨?_, ?_⟩) ?_ ?_
      rotate_left 2
      focus (simp only [kG]; exact rfl)
      iterate 7 focus kernel_rfl
      focus (exact fun _ _ _ h => h)
      focus rfl
      focus (intro wSw hSw; (have hSw := hSw.out); (refine cu_run_load 56 (.tmp 11) ?_ o 0 ?_ _ _ hSw.2.2.2.1 Try.underlying56 rfl (by rw [List.length_map, lBB]; exact sz_b64)) <;> rfl)
      focus assumption
      try simp only [kP]
      refine wpAnyHL_take (i := 1) (oi := ?_) (v := ?_) ?_ ?_ ?_ ?_ ?_ ?_ ?_ ?_ ?_ (Or.inl ⟨?_, ?_⟩) ?_ ?_
      rotate_left 2
      focus (simp only [kG]; exact rfl)
      iterate 7 focus kernel_rfl
      focus (exact fun _ _ _ h => h)
      focus rfl
      focus (intro wSw hSw; (have hSw := hSw.out); (refine cu_run_load 69 (.tmp 14) ?_ rr 0 ?_ _ _ hSw.2.1 Try.underlying69 rfl (by rw [List.length_map, lR]; exact sz_cnum)) <;> rfl)
      focus assumption
      try simp only [kP]
      refine wpAnyHL_one (i := 2) (o := ?_) (by kernel_rfl) (by kernel_rfl) ?_ ?_
      rotate_left 1
      focus (simp only [kG]; exact rfl)
      go_wp2_with (go_at_call 54; refine (HZR.out _).mono ?_; rintro r W5 ⟨rfl, hk5⟩; have HK5 := Lib.hid hk5; clear hk5)
      try dsimp only [StepQ]
      refine ⟨?_, fun hHeld => ?_⟩
      focus (exact Lib.hid (⟨hHeld.out.1.trans HK5.out, hHeld.out.2.1.keeps HK5.out, hHeld.out.2.2.1.keeps HK5.out, hHeld.out.2.2.2.1.keeps HK5.out, hHeld.out.2.2.2.2.imp (fun _ h => ⟨h.1, h.2.keeps HK5.out⟩)⟩))
      try simp only [kP]
      refine wpAnyHL_take (i := 3) (oi := ?_) (v := ?_) ?_ ?_ ?_ ?_ ?_ ?_ ?_ ?_ ?_ (Or.inl ⟨?_, ?_⟩) ?_ ?_
      rotate_left 2
      focus (simp only [kG]; exact rfl)
      iterate 7 focus kernel_rfl
      focus (exact fun _ _ _ h => h)
      focus rfl
      focus ((intro wSw hSw; (have hSw := hSw.out); (try dsimp only at hSw); go_simp) <;> with_reducible rfl)
      focus assumption
      try simp only [kP]
      refine wpAnyHL_take (i := 4) (oi := ?_) (v := ?_) ?_ ?_ ?_ ?_ ?_ ?_ ?_ ?_ ?_ (Or.inl ⟨?_, ?_⟩) ?_ ?_
      rotate_left 2
      focus (simp only [kG]; exact rfl)
      iterate 7 focus kernel_rfl
      focus (exact fun _ _ _ h => h)
      focus rfl
      focus ((intro wSw hSw; (have hSw := hSw.out); (try dsimp only at hSw); go_simp) <;> with_reducible rfl)
      focus assumption
      try simp only [kP]
      refine wpAnyHL_take (i := 5) (oi := ?_) (v := ?_) ?_ ?_ ?_ ?_ ?_ ?_ ?_ ?_ ?_ (Or.inl ⟨?_, ?_⟩) ?_ ?_
      rotate_left 2
      focus (simp only [kG]; exact rfl)
      iterate 7 focus kernel_rfl
      focus (exact fun _ _ _ h => h)
      focus rfl
      focus (intro wSw hSw; (have hSw := hSw.out); (refine cu_run_load 69 (.tmp 15) ?_ sz 0 ?_ _ _ hSw.2.2.1 Try.underlying69 rfl (by rw [List.length_map, lS]; exact sz_cnum)) <;> rfl)
      focus assumption
      try simp only [kP]
      refine wpAnyHL_one (i := 6) (o := ?_) (by kernel_rfl) (by kernel_rfl) ?_ ?_
      rotate_left 1
      focus (simp only [kG]; exact rfl)
      go_wp2_with (go_at_call 54; refine (HZS.out _).mono ?_; rintro r W6 ⟨rfl, hk6⟩; have HK6 := Lib.hid hk6; clear hk6)
      try dsimp only [StepQ]
      refine ⟨?_, fun hHeld => ?_⟩
      focus (exact Lib.hid (⟨hHeld.out.1.trans HK6.out, hHeld.out.2.1.keeps HK6.out, hHeld.out.2.2.1.keeps HK6.out, hHeld.out.2.2.2.1.keeps HK6.out, hHeld.out.2.2.2.2.imp (fun _ h => ⟨h.1, h.2.keeps HK6.out⟩)⟩))
      try simp only [kP]
      refine wpAnyHL_take (i := 7) (oi := ?_) (v := ?_) ?_ ?_ ?_ ?_ ?_ ?_ ?_ ?_ ?_ (Or.inl ⟨?_, ?_⟩) ?_ ?_
      rotate_left 2
      focus (simp only [kG]; exact rfl)
      iterate 7 focus kernel_rfl
      focus (exact fun _ _ _ h => h)
      focus rfl
      focus ((intro wSw hSw; (have hSw := hSw.out); (try dsimp only at hSw); go_simp) <;> with_reducible rfl)
      focus assumption
      try simp only [kP]
      refine wpAnyHL_take (i := 8) (oi := ?_) (v := ?_) ?_ ?_ ?_ ?_ ?_ ?_ ?_ ?_ ?_ (Or.inl ⟨?_, ?_⟩) ?_ ?_
      rotate_left 2
      focus (simp only [kG]; exact rfl)
      iterate 7 focus kernel_rfl
      focus (exact fun _ _ _ h => h)
      focus rfl
      focus ((intro wSw hSw; (have hSw := hSw.out); (try dsimp only at hSw); go_simp) <;> with_reducible rfl)
      focus assumption
      try simp only [kP]
      obtain ⟨Z2, hZ2, hrz2⟩ := hHeld.out.2.2.2.2
      have HRZ3 := Lib.hid hrz2
      clear hrz2
      refine wpAnyHL_one (i := 9) (o := ?_) (by kernel_rfl) (by kernel_rfl) ?_ ?_
      rotate_left 1
      focus (simp only [kG]; exact rfl)
      go_wp2_with (refine wpList_store_row rfl 56 (.tmp 8) (.tmp 68) rfl (p + 1 + 1 + 1) 0 rfl Z2 (BB.map (Value.int .u8)) rfl HRZ3.out (by rw [List.length_map, lBB, hZ2]) (by rw [List.length_map, lBB]; exact sz_b64) (int_oneCell _) ?_; intro w9 hr9 hc9; have H9 := Lib.hid hr9; have HC9 := Lib.hid hc9; clear hr9 hc9)
      try dsimp only [StepQ]
      refine ⟨?_, fun hHeld => ?_⟩
      focus (exact Lib.hid (⟨nm_keeps_chg hHeld.out.1 HC9.out (by omega), hHeld.out.2.1.chg HC9.out (by omega), hHeld.out.2.2.1.chg HC9.out (by omega), hHeld.out.2.2.2.1.chg HC9.out (by omega), _, by rw [List.length_map, lBB], H9.out⟩))
      try simp only [kP]
      refine wpAnyHL_done (by kernel_rfl) ?_
      try simp only [List.drop_succ_cons, List.drop_zero]
      go_wp2
      cases zs <;> exact bodyPost_ret (results_cell_tmpB (p := 8) (t := 9) (ty := 56) rfl _ _ (p + 1 + 1 + 1) 0 _ _ _ rfl rfl H9.out Try.underlying56 rfl (by rw [List.length_map, lBB]; exact sz_b64)) rfl ⟨by first | rfl | (congr 2), hHeld.out.1⟩
  · have lS : S.length = 4 := by rw [hSZ]; exact lL
    have HSZ := Lib.hid hSZ
    clear hSZ HS
    go_upto_region 10 with (first | (refine wpList_load_at rfl 69 (.tmp 15) rfl _ 0 rfl (Z.map (Value.int .u64)) _ HRZ.out Try.underlying69 rfl (by rw [List.length_map, lZ]; exact sz_cnum) ?_) | (refine wpList_load_at rfl 69 (.tmp 16) rfl _ 0 rfl (L.map (Value.int .u64)) _ HRL.out Try.underlying69 rfl (by rw [List.length_map, lL]; exact sz_cnum) ?_) | (go_at_call 79; refine (HLQ.out _).mono ?_; rintro e W10 ⟨rfl, hk2⟩; have HK10 := Lib.hid hk2; clear hk2))
    have HRZ := Lib.hid (HRZ.out.keeps HK10.out); have HRL := Lib.hid (HRL.out.keeps HK10.out); have HRR := Lib.hid (HRR.out.keeps HK10.out); have HRO := Lib.hid (HRO.out.keeps HK10.out); have HRres := Lib.hid (HRres.out.keeps HK10.out); have HKW := Lib.hid (HKW.out.trans HK10.out)
    have hoW : o < W10.heap.size := Nat.lt_of_lt_of_le hoW HK10.out.size
    clear HK10
    go_upto_region 11 with (first | (refine wpList_load_at rfl 69 (.tmp 16) rfl _ 0 rfl (L.map (Value.int .u64)) _ HRL.out Try.underlying69 rfl (by rw [List.length_map, lL]; exact sz_cnum) ?_) | (refine wpList_store_row rfl 69 (.tmp 15) (.tmp 57) rfl _ 0 rfl (Z.map (Value.int .u64)) (L.map (Value.int .u64)) rfl HRZ.out (by rw [List.length_map, List.length_map, lL, lZ]) (by rw [List.length_map, lL]; exact sz_cnum) (int_oneCell _) ?_; intro W11 hr2 hc2; have HRS := Lib.hid (show Row W11 sz 0 (S.map (Value.int .u64)) by rw [HSZ.out]; exact hr2); have HC11 := Lib.hid hc2; clear hr2 hc2))
    refine wp_gen (fun W => Keeps w W ∧ Row W sz 0 (S.map (Value.int .u64)) ∧ Row W rr 0 (R.map (Value.int .u64)) ∧ Row W o 0 (zeroL64.map (Value.int .u8)) ∧ Row W (p + 1 + 1 + 1) 0 Zr ∧ o < W.heap.size) ⟨nm_keeps_chg HKW.out HC11.out hws, HRS.out, HRR.out.chg HC11.out (by omega), HRO.out.chg HC11.out (by omega), HRres.out.chg HC11.out (by omega), Nat.lt_of_lt_of_le hoW HC11.out.size⟩ ?_
    clear HRS HKW HRR HRO HRres hoW HRZ HRL HC11 HSZ HLQ
    rintro W12 ⟨hk, hr1, hr2, hr3, hr4, hoW⟩
    have HKW := Lib.hid hk; have HRS := Lib.hid hr1; have HRR := Lib.hid hr2; have HRO := Lib.hid hr3; have HRres := Lib.hid hr4
    clear hk hr1 hr2 hr3 hr4
    refine wp_region_keep 6 [4, 5] [0, 1, 2, 3] (fun _ => (List.replicate 32 (0 : Int)).map (Value.int .u8)) (by kernel_rfl) (by kernel_rfl) (by intro i hi; simp only [List.mem_cons, List.not_mem_nil, or_false] at hi; (first | (rcases hi with rfl | rfl) | subst hi) <;> exact ⟨_, rfl, alloc_b32 rfl rfl⟩) ?_
    refine keep_pure (o := ?_) (v := ?_) ?_ ?_ ?_ ?_
    rotate_left 2
    focus (simp only [kG]; exact rfl)
    focus rfl
    focus (intro wS hS; (refine cu_run_load 69 (.tmp 14) ?_ rr 0 ?_ (R.map (Value.int .u64)) _ (HRR.out.keeps hS) Try.underlying69 rfl (by rw [List.length_map, lR]; exact sz_cnum)) <;> rfl)
    try simp only [kP]
    refine keep_call (o := ?_) (f := ?_) (args := ?_) (v := ?_) ?_ ?_ ?_ ?_ ?_
    rotate_left 4
    focus (simp only [kG]; exact rfl)
    focus rfl
    focus (intro wS; go_simp; refine ⟨?_, ?_⟩ <;> with_reducible rfl)
    focus (intro wS hS; exact HBR.out wS)
    try simp only [kP]
    refine keep_pure (o := ?_) (v := ?_) ?_ ?_ ?_ ?_
    rotate_left 2
    focus (simp only [kG]; exact rfl)
    focus rfl
    focus (intro wS hS; (refine cu_run_load 69 (.tmp 15) ?_ sz 0 ?_ (S.map (Value.int .u64)) _ (HRS.out.keeps hS) Try.underlying69 rfl (by rw [List.length_map, lS]; exact sz_cnum)) <;> rfl)
    try simp only [kP]
    refine keep_call (o := ?_) (f := ?_) (args := ?_) (v := ?_) ?_ ?_ ?_ ?_ ?_
    rotate_left 4
    focus (simp only [kG]; exact rfl)
    focus rfl
    focus (intro wS; go_simp; refine ⟨?_, ?_⟩ <;> with_reducible rfl)
    focus (intro wS hS; exact HBS.out wS)
    try simp only [kP]
    refine keep_nil ?_
    intro GG V1 hk1 hG
    obtain ⟨ha4, hz4, hd4⟩ := hG 4 (by simp)
    obtain ⟨ha5, hz5, hd5⟩ := hG 5 (by simp)
    have hne9 := hd4 5 (by simp) (by decide)
    clear hd4 hd5
    simp only [putsA, dstAt, Act.put, ptrV, List.drop_succ_cons, List.drop_zero, List.getElem?_toArray, List.getElem?_cons_succ, List.getElem?_cons_zero, Option.bind_some, List.setIfInBounds_toArray, List.set_cons_zero, List.set_cons_succ]
    generalize GG 4 = ba at *
    generalize GG 5 = bb at *
    clear hG
    have HZ4 := Lib.hid hz4; have HZ5 := Lib.hid hz5; have HV1 := Lib.hid hk1
    clear hz4 hz5 hk1
    have HB4 := Lib.hid (show W12.heap.size ≤ ba from ha4); have HB5 := Lib.hid (show W12.heap.size ≤ bb from ha5)
    clear ha4 ha5
    go_upto_region 12 with (first | (refine wpList_store_row rfl 22 (.tmp 17) (.tmp 59) rfl _ 0 rfl ((List.replicate 32 (0 : Int)).map (Value.int .u8)) (BR.map (Value.int .u8)) rfl HZ4.out (by rw [List.length_map, lBR]; rfl) (by rw [List.length_map, lBR]; exact sz_b32') (int_oneCell _) ?_; intro W3 hr2 hc2; have HN1 := Lib.hid hr2; have HC1 := Lib.hid hc2; clear hr2 hc2) | (refine wpList_store_row rfl 22 (.tmp 18) (.tmp 61) rfl _ 0 rfl ((List.replicate 32 (0 : Int)).map (Value.int .u8)) (BS.map (Value.int .u8)) rfl (HZ5.out.chg HC1.out (by omega)) (by rw [List.length_map, lBS]; rfl) (by rw [List.length_map, lBS]; exact sz_b32') (int_oneCell _) ?_; intro W4 hr2 hc2; have HRB := Lib.hid hr2; have HC2 := Lib.hid hc2; clear hr2 hc2))
    have HK2 := Lib.hid (nm_keeps_chg (nm_keeps_chg HV1.out HC1.out HB4.out) HC2.out HB5.out)
    have HRA := Lib.hid (HN1.out.chg HC2.out (by omega))
    have hba : ba < W4.heap.size := HRA.out.lt (map_ne lBR)
    have hbb : bb < W4.heap.size := HRB.out.lt (map_ne lBS)
    have hoba : o < ba := Nat.lt_of_lt_of_le hoW HB4.out
    have hobb : o < bb := Nat.lt_of_lt_of_le hoW HB5.out
    have HRR := Lib.hid (HRR.out.keeps HK2.out); have HRS := Lib.hid (HRS.out.keeps HK2.out); have HRO := Lib.hid (HRO.out.keeps HK2.out); have HRres := Lib.hid (HRres.out.keeps HK2.out); have HKW := Lib.hid (HKW.out.trans HK2.out)
    clear HK2 HC1 HC2 HN1 HV1 HZ4 HZ5 HB4 HB5 hne9 HBR HBS hoW
    refine wp_region_quiet_tail 2 (by kernel_rfl) (by kernel_rfl) ?_
    simp only [List.take_succ_cons, List.take_zero, List.drop_succ_cons, List.drop_zero]
    repeat (first | go_big_quiet_step (fail) | quiet_step (fail))
    refine wpQuiet_nil ?_
    intro _ hw'
    obtain ⟨nq, hw''⟩ := hw'
    subst hw''
    refine cu_copy rfl (.tmp 62) (.tmp 63) rfl o 0 64 64 rfl (some ⟨ba, 0, none⟩) 32 32 rfl (by omega) (zeroL64.map (Value.int .u8)) (HRO.out.drewN nq) (by simp [zeroL64]) (BR.map (Value.int .u8)) (Rd.of_row (HRA.out.drewN nq) (by simp [lBR]) (by show ba < W4.heap.size; omega) (by omega) (by unfold maxLen; omega)) (int_oneCell _) (fun W6 hr6 hc6 => ?_)
    have hr6 : Row W6 o 0 ((zeroL64.map (Value.int .u8)).take 0 ++ BR.map (Value.int .u8) ++ (zeroL64.map (Value.int .u8)).drop 32) := hr6
    rw [HPA.out] at hr6
    have HRO := Lib.hid hr6
    have HRres := Lib.hid ((HRres.out.drewN nq).chg hc6 (by omega)); have HRR := Lib.hid ((HRR.out.drewN nq).chg hc6 (by omega)); have HRS := Lib.hid ((HRS.out.drewN nq).chg hc6 (by omega)); have HRB := Lib.hid ((HRB.out.drewN nq).chg hc6 (by omega))
    have hbb : bb < W6.heap.size := Nat.lt_of_lt_of_le (show bb < W4.heap.size from hbb) hc6.size
    have HKW := Lib.hid (nm_keeps_chg (HKW.out.trans (Qt.drewN W4 nq).keeps) hc6 (by omega))
    clear hr6 hc6 HPA HRA hba
    go_upto_region 13 with (fail)
    refine wp_region_quiet_tail 2 (by kernel_rfl) (by kernel_rfl) ?_
    simp only [List.take_succ_cons, List.take_zero, List.drop_succ_cons, List.drop_zero]
    repeat (first | go_big_quiet_step (fail) | quiet_step (fail))
    refine wpQuiet_nil ?_
    intro _ hw'
    obtain ⟨nq, hw''⟩ := hw'
    subst hw''
    refine cu_copy rfl (.tmp 65) (.tmp 66) rfl o 32 32 32 rfl (some ⟨bb, 0, none⟩) 32 32 rfl (Nat.le_refl _) ((BR ++ List.replicate 32 0).map (Value.int .u8)) (HRO.out.drewN nq) (by simp [lBR]) (BS.map (Value.int .u8)) (Rd.of_row (HRB.out.drewN nq) (by simp [lBS]) (by show bb < W6.heap.size; omega) (by omega) (by unfold maxLen; omega)) (int_oneCell _) (fun W7 hr7 hc7 => ?_)
    have hr7 : Row W7 o 0 (((BR ++ List.replicate 32 0).map (Value.int .u8)).take 32 ++ BS.map (Value.int .u8) ++ ((BR ++ List.replicate 32 0).map (Value.int .u8)).drop 64) := hr7
    rw [HPB.out] at hr7
    have HRO := Lib.hid hr7
    have HRres := Lib.hid ((HRres.out.drewN nq).chg hc7 (by omega)); have HRR := Lib.hid ((HRR.out.drewN nq).chg hc7 (by omega)); have HRS := Lib.hid ((HRS.out.drewN nq).chg hc7 (by omega))
    have HKW := Lib.hid (nm_keeps_chg (HKW.out.trans (Qt.drewN W6 nq).keeps) hc7 (by omega))
    clear hr7 hc7 HPB HRB hbb
    go_upto_region 14 with (fail)
    rcases HOK.out with ⟨rfl, rfl⟩ | ⟨rfl, rfl⟩
    · skip
      refine wp_region_head (S := fun W => Hid ((fun W' => Keeps w W' ∧ Row W' rr 0 (R.map (Value.int .u64)) ∧ Row W' sz 0 (S.map (Value.int .u64)) ∧ Row W' o 0 (BB.map (Value.int .u8)) ∧ ∃ Z : List Value, Z.length = 64 ∧ Row W' (p + 1 + 1 + 1) 0 Z) W)) 10 (by kernel_rfl) (by kernel_rfl) ?_ (fun hHeld => ?_)
      focus exact Lib.hid ⟨keeps_drew1 HKW.out, HRR.out.drew, HRS.out.drew, HRO.out.drew, Zr, hZr, HRres.out.drew⟩
      refine wpAnyHL_take (i := 0) (oi := ?_) (v := ?_) ?_ ?_ ?_ ?_ ?_ ?_ ?_ ?_ ?_ (Or.inl ⟨?_, ?_⟩) ?_ ?_
      rotate_left 2
      focus (simp only [kG]; exact rfl)
      iterate 7 focus kernel_rfl
      focus (exact fun _ _ _ h => h)
      focus rfl
      focus (intro wSw hSw; (have hSw := hSw.out); (refine cu_run_load 56 (.tmp 11) ?_ o 0 ?_ _ _ hSw.2.2.2.1 Try.underlying56 rfl (by rw [List.length_map, lBB]; exact sz_b64)) <;> rfl)
      focus assumption
      try simp only [kP]
      refine wpAnyHL_take (i := 1) (oi := ?_) (v := ?_) ?_ ?_ ?_ ?_ ?_ ?_ ?_ ?_ ?_ (Or.inl ⟨?_, ?_⟩) ?_ ?_
      rotate_left 2
      focus (simp only [kG]; exact rfl)
      iterate 7 focus kernel_rfl
      focus (exact fun _ _ _ h => h)
      focus rfl
      focus (intro wSw hSw; (have hSw := hSw.out); (refine cu_run_load 69 (.tmp 14) ?_ rr 0 ?_ _ _ hSw.2.1 Try.underlying69 rfl (by rw [List.length_map, lR]; exact sz_cnum)) <;> rfl)
      focus assumption
      try simp only [kP]
      refine wpAnyHL_one (i := 2) (o := ?_) (by kernel_rfl) (by kernel_rfl) ?_ ?_
      rotate_left 1
      focus (simp only [kG]; exact rfl)
      go_wp2_with (go_at_call 54; refine (HZR.out _).mono ?_; rintro r W5 ⟨rfl, hk5⟩; have HK5 := Lib.hid hk5; clear hk5)
      try dsimp only [StepQ]
      refine ⟨?_, fun hHeld => ?_⟩
      focus (exact Lib.hid (⟨hHeld.out.1.trans HK5.out, hHeld.out.2.1.keeps HK5.out, hHeld.out.2.2.1.keeps HK5.out, hHeld.out.2.2.2.1.keeps HK5.out, hHeld.out.2.2.2.2.imp (fun _ h => ⟨h.1, h.2.keeps HK5.out⟩)⟩))
      try simp only [kP]
      refine wpAnyHL_take (i := 3) (oi := ?_) (v := ?_) ?_ ?_ ?_ ?_ ?_ ?_ ?_ ?_ ?_ (Or.inl ⟨?_, ?_⟩) ?_ ?_
      rotate_left 2
      focus (simp only [kG]; exact rfl)
      iterate 7 focus kernel_rfl
      focus (exact fun _ _ _ h => h)
      focus rfl
      focus ((intro wSw hSw; (have hSw := hSw.out); (try dsimp only at hSw); go_simp) <;> with_reducible rfl)
      focus assumption
      try simp only [kP]
      refine wpAnyHL_take (i := 4) (oi := ?_) (v := ?_) ?_ ?_ ?_ ?_ ?_ ?_ ?_ ?_ ?_ (Or.inl ⟨?_, ?_⟩) ?_ ?_
      rotate_left 2
      focus (simp only [kG]; exact rfl)
      iterate 7 focus kernel_rfl
      focus (exact fun _ _ _ h => h)
      focus rfl
      focus ((intro wSw hSw; (have hSw := hSw.out); (try dsimp only at hSw); go_simp) <;> with_reducible rfl)
      focus assumption
      try simp only [kP]
      refine wpAnyHL_take (i := 5) (oi := ?_) (v := undef) ?_ ?_ ?_ ?_ ?_ ?_ ?_ ?_ ?_ (Or.inr ⟨?_, rfl⟩) ?_ ?_
      rotate_left 1
      focus (simp only [kG]; exact rfl)
      iterate 7 focus kernel_rfl
      focus (exact fun _ _ _ h => h)
      focus rfl
      focus assumption
      try simp only [kP]
      refine wpAnyHL_take (i := 6) (oi := ?_) (v := undef) ?_ ?_ ?_ ?_ ?_ ?_ ?_ ?_ ?_ (Or.inr ⟨?_, rfl⟩) ?_ ?_
      rotate_left 1
      focus (simp only [kG]; exact rfl)
      iterate 7 focus kernel_rfl
      focus (exact fun _ _ _ h => h)
      focus rfl
      focus assumption
      try simp only [kP]
      refine wpAnyHL_take (i := 7) (oi := ?_) (v := undef) ?_ ?_ ?_ ?_ ?_ ?_ ?_ ?_ ?_ (Or.inr ⟨?_, rfl⟩) ?_ ?_
      rotate_left 1
      focus (simp only [kG]; exact rfl)
      iterate 7 focus kernel_rfl
      focus (exact fun _ _ _ h => h)
      focus rfl
      focus assumption
      try simp only [kP]
      refine wpAnyHL_take (i := 8) (oi := ?_) (v := ?_) ?_ ?_ ?_ ?_ ?_ ?_ ?_ ?_ ?_ (Or.inl ⟨?_, ?_⟩) ?_ ?_
      rotate_left 2
      focus (simp only [kG]; exact rfl)
      iterate 7 focus kernel_rfl
      focus (exact fun _ _ _ h => h)
      focus rfl
      focus ((intro wSw hSw; (have hSw := hSw.out); (try dsimp only at hSw); go_simp) <;> with_reducible rfl)
      focus assumption
      try simp only [kP]
      obtain ⟨Z2, hZ2, hrz2⟩ := hHeld.out.2.2.2.2
      have HRZ3 := Lib.hid hrz2
      clear hrz2
      refine wpAnyHL_one (i := 9) (o := ?_) (by kernel_rfl) (by kernel_rfl) ?_ ?_
      rotate_left 1
      focus (simp only [kG]; exact rfl)
      go_wp2_with (refine wpList_store_row rfl 56 (.tmp 8) (.tmp 68) rfl (p + 1 + 1 + 1) 0 rfl Z2 (BB.map (Value.int .u8)) rfl HRZ3.out (by rw [List.length_map, lBB, hZ2]) (by rw [List.length_map, lBB]; exact sz_b64) (int_oneCell _) ?_; intro w9 hr9 hc9; have H9 := Lib.hid hr9; have HC9 := Lib.hid hc9; clear hr9 hc9)
      try dsimp only [StepQ]
      refine ⟨?_, fun hHeld => ?_⟩
      focus (exact Lib.hid (⟨nm_keeps_chg hHeld.out.1 HC9.out (by omega), hHeld.out.2.1.chg HC9.out (by omega), hHeld.out.2.2.1.chg HC9.out (by omega), hHeld.out.2.2.2.1.chg HC9.out (by omega), _, by rw [List.length_map, lBB], H9.out⟩))
      try simp only [kP]
      refine wpAnyHL_done (by kernel_rfl) ?_
      try simp only [List.drop_succ_cons, List.drop_zero]
      go_wp2
      exact bodyPost_ret (results_cell_tmpB (p := 8) (t := 9) (ty := 56) rfl _ _ (p + 1 + 1 + 1) 0 _ _ _ rfl rfl H9.out Try.underlying56 rfl (by rw [List.length_map, lBB]; exact sz_b64)) rfl ⟨by first | rfl | (congr 2), hHeld.out.1⟩
    · skip
      refine wp_region_head (S := fun W => Hid ((fun W' => Keeps w W' ∧ Row W' rr 0 (R.map (Value.int .u64)) ∧ Row W' sz 0 (S.map (Value.int .u64)) ∧ Row W' o 0 (BB.map (Value.int .u8)) ∧ ∃ Z : List Value, Z.length = 64 ∧ Row W' (p + 1 + 1 + 1) 0 Z) W)) 10 (by kernel_rfl) (by kernel_rfl) ?_ (fun hHeld => ?_)
      focus exact Lib.hid ⟨keeps_drew1 HKW.out, HRR.out.drew, HRS.out.drew, HRO.out.drew, Zr, hZr, HRres.out.drew⟩
      refine wpAnyHL_take (i := 0) (oi := ?_) (v := ?_) ?_ ?_ ?_ ?_ ?_ ?_ ?_ ?_ ?_ (Or.inl ⟨?_, ?_⟩) ?_ ?_
      rotate_left 2
      focus (simp only [kG]; exact rfl)
      iterate 7 focus kernel_rfl
      focus (exact fun _ _ _ h => h)
      focus rfl
      focus (intro wSw hSw; (have hSw := hSw.out); (refine cu_run_load 56 (.tmp 11) ?_ o 0 ?_ _ _ hSw.2.2.2.1 Try.underlying56 rfl (by rw [List.length_map, lBB]; exact sz_b64)) <;> rfl)
      focus assumption
      try simp only [kP]
      refine wpAnyHL_take (i := 1) (oi := ?_) (v := ?_) ?_ ?_ ?_ ?_ ?_ ?_ ?_ ?_ ?_ (Or.inl ⟨?_, ?_⟩) ?_ ?_
      rotate_left 2
      focus (simp only [kG]; exact rfl)
      iterate 7 focus kernel_rfl
      focus (exact fun _ _ _ h => h)
      focus rfl
      focus (intro wSw hSw; (have hSw := hSw.out); (refine cu_run_load 69 (.tmp 14) ?_ rr 0 ?_ _ _ hSw.2.1 Try.underlying69 rfl (by rw [List.length_map, lR]; exact sz_cnum)) <;> rfl)
      focus assumption
      try simp only [kP]
      refine wpAnyHL_one (i := 2) (o := ?_) (by kernel_rfl) (by kernel_rfl) ?_ ?_
      rotate_left 1
      focus (simp only [kG]; exact rfl)
      go_wp2_with (go_at_call 54; refine (HZR.out _).mono ?_; rintro r W5 ⟨rfl, hk5⟩; have HK5 := Lib.hid hk5; clear hk5)
      try dsimp only [StepQ]
      refine ⟨?_, fun hHeld => ?_⟩
      focus (exact Lib.hid (⟨hHeld.out.1.trans HK5.out, hHeld.out.2.1.keeps HK5.out, hHeld.out.2.2.1.keeps HK5.out, hHeld.out.2.2.2.1.keeps HK5.out, hHeld.out.2.2.2.2.imp (fun _ h => ⟨h.1, h.2.keeps HK5.out⟩)⟩))
      try simp only [kP]
      refine wpAnyHL_take (i := 3) (oi := ?_) (v := ?_) ?_ ?_ ?_ ?_ ?_ ?_ ?_ ?_ ?_ (Or.inl ⟨?_, ?_⟩) ?_ ?_
      rotate_left 2
      focus (simp only [kG]; exact rfl)
      iterate 7 focus kernel_rfl
      focus (exact fun _ _ _ h => h)
      focus rfl
      focus ((intro wSw hSw; (have hSw := hSw.out); (try dsimp only at hSw); go_simp) <;> with_reducible rfl)
      focus assumption
      try simp only [kP]
      refine wpAnyHL_take (i := 4) (oi := ?_) (v := ?_) ?_ ?_ ?_ ?_ ?_ ?_ ?_ ?_ ?_ (Or.inl ⟨?_, ?_⟩) ?_ ?_
      rotate_left 2
      focus (simp only [kG]; exact rfl)
      iterate 7 focus kernel_rfl
      focus (exact fun _ _ _ h => h)
      focus rfl
      focus ((intro wSw hSw; (have hSw := hSw.out); (try dsimp only at hSw); go_simp) <;> with_reducible rfl)
      focus assumption
      try simp only [kP]
      refine wpAnyHL_take (i := 5) (oi := ?_) (v := ?_) ?_ ?_ ?_ ?_ ?_ ?_ ?_ ?_ ?_ (Or.inl ⟨?_, ?_⟩) ?_ ?_
      rotate_left 2
      focus (simp only [kG]; exact rfl)
      iterate 7 focus kernel_rfl
      focus (exact fun _ _ _ h => h)
      focus rfl
      focus (intro wSw hSw; (have hSw := hSw.out); (refine cu_run_load 69 (.tmp 15) ?_ sz 0 ?_ _ _ hSw.2.2.1 Try.underlying69 rfl (by rw [List.length_map, lS]; exact sz_cnum)) <;> rfl)
      focus assumption
      try simp only [kP]
      refine wpAnyHL_one (i := 6) (o := ?_) (by kernel_rfl) (by kernel_rfl) ?_ ?_
      rotate_left 1
      focus (simp only [kG]; exact rfl)
      go_wp2_with (go_at_call 54; refine (HZS.out _).mono ?_; rintro r W6 ⟨rfl, hk6⟩; have HK6 := Lib.hid hk6; clear hk6)
      try dsimp only [StepQ]
      refine ⟨?_, fun hHeld => ?_⟩
      focus (exact Lib.hid (⟨hHeld.out.1.trans HK6.out, hHeld.out.2.1.keeps HK6.out, hHeld.out.2.2.1.keeps HK6.out, hHeld.out.2.2.2.1.keeps HK6.out, hHeld.out.2.2.2.2.imp (fun _ h => ⟨h.1, h.2.keeps HK6.out⟩)⟩))
      try simp only [kP]
      refine wpAnyHL_take (i := 7) (oi := ?_) (v := ?_) ?_ ?_ ?_ ?_ ?_ ?_ ?_ ?_ ?_ (Or.inl ⟨?_, ?_⟩) ?_ ?_
      rotate_left 2
      focus (simp only [kG]; exact rfl)
      iterate 7 focus kernel_rfl
      focus (exact fun _ _ _ h => h)
      focus rfl
      focus ((intro wSw hSw; (have hSw := hSw.out); (try dsimp only at hSw); go_simp) <;> with_reducible rfl)
      focus assumption
      try simp only [kP]
      refine wpAnyHL_take (i := 8) (oi := ?_) (v := ?_) ?_ ?_ ?_ ?_ ?_ ?_ ?_ ?_ ?_ (Or.inl ⟨?_, ?_⟩) ?_ ?_
      rotate_left 2
      focus (simp only [kG]; exact rfl)
      iterate 7 focus kernel_rfl
      focus (exact fun _ _ _ h => h)
      focus rfl
      focus ((intro wSw hSw; (have hSw := hSw.out); (try dsimp only at hSw); go_simp) <;> with_reducible rfl)
      focus assumption
      try simp only [kP]
      obtain ⟨Z2, hZ2, hrz2⟩ := hHeld.out.2.2.2.2
      have HRZ3 := Lib.hid hrz2
      clear hrz2
      refine wpAnyHL_one (i := 9) (o := ?_) (by kernel_rfl) (by kernel_rfl) ?_ ?_
      rotate_left 1
      focus (simp only [kG]; exact rfl)
      go_wp2_with (refine wpList_store_row rfl 56 (.tmp 8) (.tmp 68) rfl (p + 1 + 1 + 1) 0 rfl Z2 (BB.map (Value.int .u8)) rfl HRZ3.out (by rw [List.length_map, lBB, hZ2]) (by rw [List.length_map, lBB]; exact sz_b64) (int_oneCell _) ?_; intro w9 hr9 hc9; have H9 := Lib.hid hr9; have HC9 := Lib.hid hc9; clear hr9 hc9)
      try dsimp only [StepQ]
      refine ⟨?_, fun hHeld => ?_⟩
      focus (exact Lib.hid (⟨nm_keeps_chg hHeld.out.1 HC9.out (by omega), hHeld.out.2.1.chg HC9.out (by omega), hHeld.out.2.2.1.chg HC9.out (by omega), hHeld.out.2.2.2.1.chg HC9.out (by omega), _, by rw [List.length_map, lBB], H9.out⟩))
      try simp only [kP]
      refine wpAnyHL_done (by kernel_rfl) ?_
      try simp only [List.drop_succ_cons, List.drop_zero]
      go_wp2
      cases zs <;> exact bodyPost_ret (results_cell_tmpB (p := 8) (t := 9) (ty := 56) rfl _ _ (p + 1 + 1 + 1) 0 _ _ _ rfl rfl H9.out Try.underlying56 rfl (by rw [List.length_map, lBB]; exact sz_b64)) rfl ⟨by first | rfl | (congr 2), hHeld.out.1⟩
end Go.Proofs.Ytajipagpdphejaa
