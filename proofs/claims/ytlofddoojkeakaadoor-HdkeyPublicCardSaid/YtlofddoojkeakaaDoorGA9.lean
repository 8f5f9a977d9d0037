/- curve's two fields; whether bytes are a key. No condition. -/
import Derived.Test.YtlofddoojkeakaaDoorGA5
import Derived.Test.YtlofddoojkeakaaDoorGA8
namespace Go.Proofs.YtlofddoojkeakaaDoor
set_option linter.unusedVariables false
set_option linter.unusedSimpArgs false
open Go Go.RowKit

def pCells : List Int := [18446744069414583343, 18446744073709551615, 18446744073709551615, 18446744073709551615, 4294968273, 0, 0]
def nCells : List Int := [13822214165235122497, 13451932020343611451, 18446744073709551614, 18446744073709551615, 4624529908474429119, 4994812053365940164, 1]
/-- the field's prime -/
def PV : Int := 115792089237316195423570985008687907853269984665640564039457584007908834671663
theorem PV_u256 : U256 PV := by unfold U256 PV; exact ⟨by decide, by decide⟩
theorem pCells_m : pCells.take 4 = words PV := by decide +kernel
theorem nCells_m : nCells.take 4 = words NV := by decide +kernel
theorem sz_field : (Tryd.prog.info? 85).map (·.size) = some 7 := by kernel_rfl
theorem built_coords : Tryd.prog.built 70 [(0, .int .u64 18446744069414583343), (1, .int .u64 18446744073709551615), (2, .int .u64 18446744073709551615), (3, .int .u64 18446744073709551615)] = some #[.int .u64 18446744069414583343, .int .u64 18446744073709551615, .int .u64 18446744073709551615, .int .u64 18446744073709551615] := by kernel_rfl
theorem built_coordsd : Tryd.prog.built 83 [(0, .int .u64 4294968273), (1, .int .u64 0), (2, .int .u64 0)] = some #[.int .u64 4294968273, .int .u64 0, .int .u64 0] := by kernel_rfl
theorem built_coordsf : Tryd.prog.built 85 [(0, .agg #[.int .u64 18446744069414583343, .int .u64 18446744073709551615, .int .u64 18446744073709551615, .int .u64 18446744073709551615]), (1, .agg #[.int .u64 4294968273, .int .u64 0, .int .u64 0])] = some (pCells.map (Value.int .u64)).toArray := by kernel_rfl
theorem built_orders : Tryd.prog.built 70 [(0, .int .u64 13822214165235122497), (1, .int .u64 13451932020343611451), (2, .int .u64 18446744073709551614), (3, .int .u64 18446744073709551615)] = some #[.int .u64 13822214165235122497, .int .u64 13451932020343611451, .int .u64 18446744073709551614, .int .u64 18446744073709551615] := by kernel_rfl
theorem built_ordersd : Tryd.prog.built 83 [(0, .int .u64 4624529908474429119), (1, .int .u64 4994812053365940164), (2, .int .u64 1)] = some #[.int .u64 4624529908474429119, .int .u64 4994812053365940164, .int .u64 1] := by kernel_rfl
theorem built_ordersf : Tryd.prog.built 85 [(0, .agg #[.int .u64 13822214165235122497, .int .u64 13451932020343611451, .int .u64 18446744073709551614, .int .u64 18446744073709551615]), (1, .agg #[.int .u64 4624529908474429119, .int .u64 4994812053365940164, .int .u64 1])] = some (nCells.map (Value.int .u64)).toArray := by kernel_rfl
theorem built_group : Tryd.prog.built 87 [(0, .agg (pCells.map (Value.int .u64)).toArray), (1, .agg (nCells.map (Value.int .u64)).toArray)] = some ((pCells ++ nCells).map (Value.int .u64)).toArray := by kernel_rfl
set_option maxRecDepth 100000 in
theorem coords_any (w : World) : Calls Tryd.prog 55 #[] w fun e w' => e = .returned (.agg (pCells.map (Value.int .u64)).toArray) ∧ Keeps w w' := by
  have HB := Lib.hid built_coordsf
  have hl : pCells.length = 7 := rfl
  generalize pCells = X at *
  go_enter Tryd.func55, Tryd.ntmps55
  go_upto_region 1 with (fail)
  refine cu_rows1 (fun W hk hr hs => ?_)
  obtain ⟨Z, hZ, hrz⟩ : ∃ Z : List Value, Z.length = 7 ∧ Row W w.heap.size 0 Z := ⟨_, rfl, hr⟩
  have HR := Lib.hid hrz; have HK := Lib.hid hk
  clear hk hr hrz hs
  go_wp2_with (first | (refine cu_build (by kernel_rfl) 70 _ rfl _ ?_ _ built_coords ?_; focus (simp only [List.map_toArray, List.map_cons, List.map_nil]; rfl)) | (refine cu_build (by kernel_rfl) 83 _ rfl _ ?_ _ built_coordsd ?_; focus (simp only [List.map_toArray, List.map_cons, List.map_nil]; rfl)) | (refine cu_build (by kernel_rfl) 85 _ rfl _ ?_ _ HB.out ?_; focus (simp only [List.map_toArray, List.map_cons, List.map_nil]; rfl)) | (refine ws HR.out hl (by rw [hZ]) (h := ?_); intro w9 hr9 hc9; have H9 := Lib.hid hr9; have HC9 := Lib.hid hc9; clear hr9 hc9))
  exact bodyPost_ret (v := .agg (X.map (Value.int .u64)).toArray) (results_cell_at (p := 0) (ty := 85) rfl _ _ w.heap.size 0 _ _ rfl H9.out Tryd.underlying85 rfl (by rw [List.length_map, hl]; exact sz_field)) rfl ⟨rfl, nm_keeps_chg HK.out HC9.out (Nat.le_refl _)⟩
set_option maxRecDepth 100000 in
theorem orders_any (w : World) : Calls Tryd.prog 56 #[] w fun e w' => e = .returned (.agg (nCells.map (Value.int .u64)).toArray) ∧ Keeps w w' := by
  have HB := Lib.hid built_ordersf
  have hl : nCells.length = 7 := rfl
  generalize nCells = X at *
  go_enter Tryd.func56, Tryd.ntmps56
  go_upto_region 1 with (fail)
  refine cu_rows1 (fun W hk hr hs => ?_)
  obtain ⟨Z, hZ, hrz⟩ : ∃ Z : List Value, Z.length = 7 ∧ Row W w.heap.size 0 Z := ⟨_, rfl, hr⟩
  have HR := Lib.hid hrz; have HK := Lib.hid hk
  clear hk hr hrz hs
  go_wp2_with (first | (refine cu_build (by kernel_rfl) 70 _ rfl _ ?_ _ built_orders ?_; focus (simp only [List.map_toArray, List.map_cons, List.map_nil]; rfl)) | (refine cu_build (by kernel_rfl) 83 _ rfl _ ?_ _ built_ordersd ?_; focus (simp only [List.map_toArray, List.map_cons, List.map_nil]; rfl)) | (refine cu_build (by kernel_rfl) 85 _ rfl _ ?_ _ HB.out ?_; focus (simp only [List.map_toArray, List.map_cons, List.map_nil]; rfl)) | (refine ws HR.out hl (by rw [hZ]) (h := ?_); intro w9 hr9 hc9; have H9 := Lib.hid hr9; have HC9 := Lib.hid hc9; clear hr9 hc9))
  exact bodyPost_ret (v := .agg (X.map (Value.int .u64)).toArray) (results_cell_at (p := 0) (ty := 85) rfl _ _ w.heap.size 0 _ _ rfl H9.out Tryd.underlying85 rfl (by rw [List.length_map, hl]; exact sz_field)) rfl ⟨rfl, nm_keeps_chg HK.out HC9.out (Nat.le_refl _)⟩
def gCells : List Value := (pCells ++ nCells).map (Value.int .u64)
theorem gCells_p {w : World} {g : Nat} (h : Row w g 0 gCells) : Row w g 0 ((words PV).map (Value.int .u64)) := by
  have := h.take 4
  rwa [show gCells.take 4 = (words PV).map (Value.int .u64) by rw [← pCells_m]; rfl] at this
theorem gCells_n {w : World} {g : Nat} (h : Row w g 0 gCells) : Row w g 7 ((words NV).map (Value.int .u64)) := by
  have := (h.drop 7).take 4
  rwa [show (gCells.drop 7).take 4 = (words NV).map (Value.int .u64) by rw [← nCells_m]; rfl, Nat.zero_add] at this
set_option maxRecDepth 100000 in
theorem curve_any (w : World) : Calls Tryd.prog 30 #[] w fun e w' => ∃ g, e = .returned (.pointer (some ⟨g, 0, none⟩)) ∧ Keeps w w' ∧ w.heap.size ≤ g ∧ Row w' g 0 gCells := by
  have HB := Lib.hid (show Tryd.prog.built 87 [(0, .agg (pCells.map (Value.int .u64)).toArray), (1, .agg (nCells.map (Value.int .u64)).toArray)] = some gCells.toArray from built_group)
  have HP := Lib.hid coords_any
  have HN := Lib.hid orders_any
  generalize pCells.map (Value.int .u64) = X at *
  generalize nCells.map (Value.int .u64) = Y at *
  generalize gCells = G at *
  go_enter Tryd.func30, Tryd.ntmps30
  go_wp2_with (first | (go_at_call 55; refine (HP.out _).mono ?_; rintro e W1 ⟨rfl, hk1⟩; have HK1 := Lib.hid hk1; clear hk1) | (go_at_call 56; refine (HN.out _).mono ?_; rintro e W2 ⟨rfl, hk2⟩; have HK2 := Lib.hid hk2; clear hk2) | (refine cu_build (by kernel_rfl) 87 _ rfl _ ?_ _ HB.out ?_; focus (simp only [List.map_toArray, List.map_cons, List.map_nil]; rfl)))
  go_ret
  exact ⟨_, rfl, nm_keeps_alloc (HK1.out.trans HK2.out) _, (HK1.out.trans HK2.out).size, Row.new _ _ _ rfl⟩
theorem sz_b32' : (Tryd.prog.info? 24).map (·.size) = some 32 := by kernel_rfl
set_option maxRecDepth 100000 in
set_option maxHeartbeats 2000000 in
theorem gkey_any (g : Nat) (l : List Int) (hb : Bytes l) (hl : l.length = 32) (w : World) (hr : Row w g 0 gCells) :
    Calls Tryd.prog 31 #[.pointer (some ⟨g, 0, none⟩), .agg (l.map (Value.int .u8)).toArray] w fun e w' => e = .returned (.tuple #[.agg ((words (be l)).map (Value.int .u64)).toArray, .bool (keyB (be l))]) ∧ Keeps w w' := by
  have hx := be_u256 hb hl
  have HNUM := Lib.hid (fun (v : Value) W hr => cnumber_any v l W hr hb hl)
  have HZ := Lib.hid (czero_any (be l) hx)
  have HBL := Lib.hid (fun W (hk : Keeps w W) => below_any g 7 NV (be l) NV_u256 hx W ((gCells_n hr).keeps hk))
  have hcase : (be l = 0 ∧ keyB (be l) = false) ∨ (¬ be l = 0 ∧ keyB (be l) = decide (be l < NV)) := by
    by_cases h : be l = 0
    · exact .inl ⟨h, keyB_zero h⟩
    · exact .inr ⟨h, keyB_pos hx h⟩
  have hwl := words_length (be l)
  clear hr
  generalize words (be l) = X at *
  generalize keyB (be l) = KB at *
  rcases hcase with ⟨h0, rfl⟩ | ⟨h0, rfl⟩
  · rw [decide_eq_true h0] at HZ
    clear h0 hx HBL
    go_enter Tryd.func31, Tryd.ntmps31
    go_upto_region 1 with (fail)
    refine cu_rows2 (fun W hk hra hrb hs => ?_)
    obtain ⟨p, hp⟩ : ∃ p, p = w.heap.size := ⟨_, rfl⟩
    rw [← hp] at hra hrb hs ⊢
    have hkp : w.heap.size ≤ p := by omega
    obtain ⟨Z, hZl, hrz⟩ : ∃ Z : List Value, Z.length = 4 ∧ Row W (p + 1) 0 Z := ⟨_, rfl, hrb⟩
    have HRA := Lib.hid (show Row W p 0 (l.map (Value.int .u8)) from hra); have HRZ := Lib.hid hrz; have HK := Lib.hid hk
    have HRD := Lib.hid (show Rd W 1 (.slice (some ⟨p, 0, none⟩) 32 32) 32 (l.map (Value.int .u8)) from Rd.of_row HRA.out (by simp [hl]) (by omega) (Nat.le_refl _) (by unfold maxLen; omega))
    have hpW : p + 1 < W.heap.size := by omega
    clear hp hra hrb hrz hk hs
    go_upto_region 2 with (first | (go_at_call 35; refine (HNUM.out _ _ HRD.out).mono ?_; rintro e W1 ⟨rfl, hk1⟩; have HK1 := Lib.hid hk1; clear hk1) | (refine wpList_store_row rfl 70 (.tmp 6) (.tmp 8) rfl W1.heap.size 0 rfl [.int .u64 0, .int .u64 0, .int .u64 0, .int .u64 0] (X.map (Value.int .u64)) rfl (Row.new _ _ _ rfl) (by rw [List.length_map, hwl]; rfl) (by rw [List.length_map, hwl]; exact sz_cnum) (int_oneCell _) ?_; intro W2 hr2 hc2; have HR2 := Lib.hid hr2; have HK2 := Lib.hid (nm_keeps_chg (nm_keeps_alloc (Keeps.refl W1) _) hc2 (Nat.le_refl _)); clear hr2 hc2))
    have hq : p + 1 < W1.heap.size := Nat.lt_of_lt_of_le hpW HK1.out.size
    generalize W1.heap.size = q at *
    have HKW := Lib.hid ((HK.out.trans HK1.out).trans HK2.out)
    have HRZ2 := Lib.hid (HRZ.out.keeps (HK1.out.trans HK2.out))
    refine wp_region_head (S := fun W => Hid ((fun W' => Keeps w W' ∧ Row W' q 0 (X.map (Value.int .u64)) ∧ ∃ Z : List Value, Z.length = 4 ∧ Row W' (p + 1) 0 Z) W)) 12 (by kernel_rfl) (by kernel_rfl) ?_ (fun hHeld => ?_)
    focus exact Lib.hid ⟨keeps_drew1 HKW.out, HR2.out.drew, Z, hZl, HRZ2.out.drew⟩
    refine lt 0 (hx := by intro wSw hSw; (have hSw := hSw.out); (refine cu_run_load 70 (.tmp 6) ?_ q 0 ?_ _ _ hSw.2.1 Tryd.underlying70 rfl (by rw [List.length_map, hwl]; exact sz_cnum)) <;> rfl) (h := ?_)
    refine lt 1 (hx := by intro wSw hSw; (have hSw := hSw.out); (refine cu_run_load 70 (.tmp 6) ?_ q 0 ?_ _ _ hSw.2.1 Tryd.underlying70 rfl (by rw [List.length_map, hwl]; exact sz_cnum)) <;> rfl) (h := ?_)
    refine wpAnyHL_one (i := 2) (o := ?_) (by kernel_rfl) (by kernel_rfl) ?_ ?_
    rotate_left 1
    focus (simp only [kG]; exact rfl)
    go_wp2_with (go_at_call 38; refine (HZ.out _).mono ?_; rintro r W5 ⟨rfl, hk5⟩; have HK5 := Lib.hid hk5; clear hk5)
    try dsimp only [StepQ]
    refine ⟨?_, fun hHeld => ?_⟩
    focus (exact Lib.hid (⟨hHeld.out.1.trans HK5.out, hHeld.out.2.1.keeps HK5.out, hHeld.out.2.2.imp (fun _ h => ⟨h.1, h.2.keeps HK5.out⟩)⟩))
    try simp only [kP]
    refine lt 3 (h := ?_)
    refine lt 4 (h := ?_)
    refine lsk 5 (h := ?_)
    refine lsk 6 (h := ?_)
    refine lsk 7 (h := ?_)
    refine lsk 8 (h := ?_)
    refine lsk 9 (h := ?_)
    refine lt 10 (h := ?_)
    obtain ⟨Z2, hZ2, hrz2⟩ := hHeld.out.2.2
    have HRZ3 := Lib.hid hrz2
    clear hrz2
    refine wpAnyHL_one (i := 11) (o := ?_) (by kernel_rfl) (by kernel_rfl) ?_ ?_
    rotate_left 1
    focus (simp only [kG]; exact rfl)
    go_wp2_with (refine ws HRZ3.out hwl (by rw [hZ2]) (h := ?_); intro w9 hr9 hc9; have H9 := Lib.hid hr9; have HC9 := Lib.hid hc9; clear hr9 hc9)
    try dsimp only [StepQ]
    refine ⟨?_, fun hHeld => ?_⟩
    focus (exact Lib.hid (⟨nm_keeps_chg hHeld.out.1 HC9.out (by omega), hHeld.out.2.1.chg HC9.out (by omega), _, by rw [List.length_map, hwl], H9.out⟩))
    try simp only [kP]
    refine wpAnyHL_done (by kernel_rfl) ?_
    try simp only [List.drop_succ_cons, List.drop_zero]
    go_wp2
    exact bodyPost_ret (results_cell_tmpB (p := 4) (t := 5) (ty := 70) rfl _ _ (p + 1) 0 _ _ _ rfl rfl H9.out Tryd.underlying70 rfl (by rw [List.length_map, hwl]; exact sz_cnum)) rfl ⟨by first | rfl | (congr 2), hHeld.out.1⟩
  · rw [decide_eq_false h0] at HZ
    clear h0 hx
    generalize decide (be l < NV) = D at *
    go_enter Tryd.func31, Tryd.ntmps31
    go_upto_region 1 with (fail)
    refine cu_rows2 (fun W hk hra hrb hs => ?_)
    obtain ⟨p, hp⟩ : ∃ p, p = w.heap.size := ⟨_, rfl⟩
    rw [← hp] at hra hrb hs ⊢
    have hkp : w.heap.size ≤ p := by omega
    obtain ⟨Z, hZl, hrz⟩ : ∃ Z : List Value, Z.length = 4 ∧ Row W (p + 1) 0 Z := ⟨_, rfl, hrb⟩
    have HRA := Lib.hid (show Row W p 0 (l.map (Value.int .u8)) from hra); have HRZ := Lib.hid hrz; have HK := Lib.hid hk
    have HRD := Lib.hid (show Rd W 1 (.slice (some ⟨p, 0, none⟩) 32 32) 32 (l.map (Value.int .u8)) from Rd.of_row HRA.out (by simp [hl]) (by omega) (Nat.le_refl _) (by unfold maxLen; omega))
    have hpW : p + 1 < W.heap.size := by omega
    clear hp hra hrb hrz hk hs
    go_upto_region 2 with (first | (go_at_call 35; refine (HNUM.out _ _ HRD.out).mono ?_; rintro e W1 ⟨rfl, hk1⟩; have HK1 := Lib.hid hk1; clear hk1) | (refine wpList_store_row rfl 70 (.tmp 6) (.tmp 8) rfl W1.heap.size 0 rfl [.int .u64 0, .int .u64 0, .int .u64 0, .int .u64 0] (X.map (Value.int .u64)) rfl (Row.new _ _ _ rfl) (by rw [List.length_map, hwl]; rfl) (by rw [List.length_map, hwl]; exact sz_cnum) (int_oneCell _) ?_; intro W2 hr2 hc2; have HR2 := Lib.hid hr2; have HK2 := Lib.hid (nm_keeps_chg (nm_keeps_alloc (Keeps.refl W1) _) hc2 (Nat.le_refl _)); clear hr2 hc2))
    have hq : p + 1 < W1.heap.size := Nat.lt_of_lt_of_le hpW HK1.out.size
    generalize W1.heap.size = q at *
    have HKW := Lib.hid ((HK.out.trans HK1.out).trans HK2.out)
    have HRZ2 := Lib.hid (HRZ.out.keeps (HK1.out.trans HK2.out))
    refine wp_region_head (S := fun W => Hid ((fun W' => Keeps w W' ∧ Row W' q 0 (X.map (Value.int .u64)) ∧ ∃ Z : List Value, Z.length = 4 ∧ Row W' (p + 1) 0 Z) W)) 12 (by kernel_rfl) (by kernel_rfl) ?_ (fun hHeld => ?_)
    focus exact Lib.hid ⟨keeps_drew1 HKW.out, HR2.out.drew, Z, hZl, HRZ2.out.drew⟩
    refine lt 0 (hx := by intro wSw hSw; (have hSw := hSw.out); (refine cu_run_load 70 (.tmp 6) ?_ q 0 ?_ _ _ hSw.2.1 Tryd.underlying70 rfl (by rw [List.length_map, hwl]; exact sz_cnum)) <;> rfl) (h := ?_)
    refine lt 1 (hx := by intro wSw hSw; (have hSw := hSw.out); (refine cu_run_load 70 (.tmp 6) ?_ q 0 ?_ _ _ hSw.2.1 Tryd.underlying70 rfl (by rw [List.length_map, hwl]; exact sz_cnum)) <;> rfl) (h := ?_)
    refine wpAnyHL_one (i := 2) (o := ?_) (by kernel_rfl) (by kernel_rfl) ?_ ?_
    rotate_left 1
    focus (simp only [kG]; exact rfl)
    go_wp2_with (go_at_call 38; refine (HZ.out _).mono ?_; rintro r W5 ⟨rfl, hk5⟩; have HK5 := Lib.hid hk5; clear hk5)
    try dsimp only [StepQ]
    refine ⟨?_, fun hHeld => ?_⟩
    focus (exact Lib.hid (⟨hHeld.out.1.trans HK5.out, hHeld.out.2.1.keeps HK5.out, hHeld.out.2.2.imp (fun _ h => ⟨h.1, h.2.keeps HK5.out⟩)⟩))
    try simp only [kP]
    refine lt 3 (h := ?_)
    refine lt 4 (h := ?_)
    refine lt 5 (h := ?_)
    refine lt 6 (h := ?_)
    refine lt 7 (h := ?_)
    refine lt 8 (hx := by intro wSw hSw; (have hSw := hSw.out); (refine cu_run_load 70 (.tmp 6) ?_ q 0 ?_ _ _ hSw.2.1 Tryd.underlying70 rfl (by rw [List.length_map, hwl]; exact sz_cnum)) <;> rfl) (h := ?_)
    refine wpAnyHL_one (i := 9) (o := ?_) (by kernel_rfl) (by kernel_rfl) ?_ ?_
    rotate_left 1
    focus (simp only [kG]; exact rfl)
    go_wp2_with (go_at_call 36; refine (HBL.out _ hHeld.out.1).mono ?_; rintro r W6 ⟨rfl, hk6⟩; have HK6 := Lib.hid hk6; clear hk6)
    try dsimp only [StepQ]
    refine ⟨?_, fun hHeld => ?_⟩
    focus (exact Lib.hid (⟨hHeld.out.1.trans HK6.out, hHeld.out.2.1.keeps HK6.out, hHeld.out.2.2.imp (fun _ h => ⟨h.1, h.2.keeps HK6.out⟩)⟩))
    try simp only [kP]
    refine lt 10 (h := ?_)
    obtain ⟨Z2, hZ2, hrz2⟩ := hHeld.out.2.2
    have HRZ3 := Lib.hid hrz2
    clear hrz2
    refine wpAnyHL_one (i := 11) (o := ?_) (by kernel_rfl) (by kernel_rfl) ?_ ?_
    rotate_left 1
    focus (simp only [kG]; exact rfl)
    go_wp2_with (refine ws HRZ3.out hwl (by rw [hZ2]) (h := ?_); intro w9 hr9 hc9; have H9 := Lib.hid hr9; have HC9 := Lib.hid hc9; clear hr9 hc9)
    try dsimp only [StepQ]
    refine ⟨?_, fun hHeld => ?_⟩
    focus (exact Lib.hid (⟨nm_keeps_chg hHeld.out.1 HC9.out (by omega), hHeld.out.2.1.chg HC9.out (by omega), _, by rw [List.length_map, hwl], H9.out⟩))
    try simp only [kP]
    refine wpAnyHL_done (by kernel_rfl) ?_
    try simp only [List.drop_succ_cons, List.drop_zero]
    go_wp2
    exact bodyPost_ret (results_cell_tmpB (p := 4) (t := 5) (ty := 70) rfl _ _ (p + 1) 0 _ _ _ rfl rfl H9.out Tryd.underlying70 rfl (by rw [List.length_map, hwl]; exact sz_cnum)) rfl ⟨by first | rfl | (congr 2), hHeld.out.1⟩
set_option maxRecDepth 100000 in
set_option maxHeartbeats 2000000 in
theorem valid_any (l : List Int) (hb : Bytes l) (hl : l.length = 32) (w : World) :
    Calls Tryd.prog 19 #[.agg (l.map (Value.int .u8)).toArray] w fun e w' => e = .returned (.bool (keyB (be l))) ∧ Keeps w w' := by
  have HKEY := Lib.hid (fun g W hr => gkey_any g l hb hl W hr)
  have HCV := Lib.hid curve_any
  have hwl := words_length (be l)
  generalize words (be l) = X at *
  generalize keyB (be l) = KB at *
  go_enter Tryd.func19, Tryd.ntmps19
  go_upto_region 1 with (fail)
  refine cu_rows1 (fun W hk hr hs => ?_)
  have HR := Lib.hid (show Row W w.heap.size 0 (l.map (Value.int .u8)) from hr); have HK := Lib.hid hk
  clear hk hr hs
  generalize w.heap.size = p at *
  go_cut [4] (fun s4 wx => Keeps W wx ∧ s4 = .bool KB)
  case first =>
    refine wp_region_held_drew (S := (fun W' => Keeps W W')) (by kernel_rfl) ?_ (fun hHeld => ?_)
    focus ((try dsimp only); exact keeps_drew1 (Keeps.refl _))
    generalize W.drew = W0 at hHeld ⊢
    refine wpAnyH_take (i := 1) (oi := ?_) (v := ?_) ?_ ?_ ?_ ?_ ?_ ?_ ?_ ?_
    rotate_left 2
    focus (simp only [List.getElem?_toArray, List.getElem?_cons_succ, List.getElem?_cons_zero]; exact rfl)
    iterate 3 focus kernel_rfl
    focus (exact fun _ _ _ h => h)
    focus (refine cu_yields_row ?_ 24 (.tmp 1) ?_ p 0 ?_ (l.map (Value.int .u8)) _ ?_ Tryd.underlying24 ?_ (by rw [List.length_map, hl]; exact sz_b32') <;> first | rfl | exact (fun w hw => HR.out.keeps hw))
    focus assumption
    try simp only [Act.put, List.setIfInBounds_toArray, List.set_cons_zero, List.set_cons_succ]
    refine wpAnyH_ready (rs := [0, 6]) (by kernel_rfl) (by simp) ?_
    refine AllReadyH.cons (o := ?_) ?_ (fun K hK => ?_) ?_
    rotate_left 1
    focus (simp only [List.getElem?_toArray, List.getElem?_cons_succ, List.getElem?_cons_zero]; exact rfl)
    · rw [if_pos (by rfl)]
      go_simp; go_at_call 30; refine (HCV.out _).mono ?_; rintro e W1 ⟨g, rfl, hk1, hgg, hrow⟩
      refine hK.out _ _ ?_ ?_
      focus ((try dsimp only); first | exact Keeps.trans (by assumption) (by assumption) | exact nm_keeps_alloc (by assumption) _ | exact hHeld | exact nm_keeps_chg (by assumption) hc9 hg8)
      clear hK K hHeld
      intro hHeld
      try simp only [Act.put, List.setIfInBounds_toArray, List.set_cons_zero, List.set_cons_succ]
      refine wpAnyH_ready (rs := [2, 6]) (by kernel_rfl) (by simp) ?_
      refine AllReadyH.cons (o := ?_) ?_ (fun K hK => ?_) ?_
      rotate_left 1
      focus (simp only [List.getElem?_toArray, List.getElem?_cons_succ, List.getElem?_cons_zero]; exact rfl)
      · rw [if_pos (by rfl)]
        go_simp; go_at_call 31; refine (HKEY.out g _ (by first | exact hrow | exact hrow.keeps (nm_keeps_alloc (Keeps.refl _) _))).mono ?_; rintro e W2 ⟨rfl, hk2⟩
        refine hK.out _ _ ?_ ?_
        focus ((try dsimp only); first | exact Keeps.trans (by assumption) (by assumption) | exact nm_keeps_alloc (by assumption) _ | exact hHeld | exact nm_keeps_chg (by assumption) hc9 hg8)
        clear hK K hHeld
        intro hHeld
        try simp only [Act.put, List.setIfInBounds_toArray, List.set_cons_zero, List.set_cons_succ]
        refine wpAnyH_take (i := 3) (oi := ?_) (v := ?_) ?_ ?_ ?_ ?_ ?_ (Or.inl ⟨?_, ?_⟩) ?_ ?_
        rotate_left 2
        focus (simp only [List.getElem?_toArray, List.getElem?_cons_succ, List.getElem?_cons_zero]; exact rfl)
        iterate 3 focus kernel_rfl
        focus (exact fun _ _ _ h => h)
        focus rfl
        focus ((intro w hSw; (try dsimp only at hSw); go_simp) <;> with_reducible rfl)
        focus assumption
        try simp only [Act.put, List.setIfInBounds_toArray, List.set_cons_zero, List.set_cons_succ]
        refine wpAnyH_take (i := 4) (oi := ?_) (v := ?_) ?_ ?_ ?_ ?_ ?_ (Or.inl ⟨?_, ?_⟩) ?_ ?_
        rotate_left 2
        focus (simp only [List.getElem?_toArray, List.getElem?_cons_succ, List.getElem?_cons_zero]; exact rfl)
        iterate 3 focus kernel_rfl
        focus (exact fun _ _ _ h => h)
        focus rfl
        focus ((intro w hSw; (try dsimp only at hSw); go_simp) <;> with_reducible rfl)
        focus assumption
        try simp only [Act.put, List.setIfInBounds_toArray, List.set_cons_zero, List.set_cons_succ]
        refine wpAnyH_take (i := 5) (oi := ?_) (v := ?_) ?_ ?_ ?_ ?_ ?_ (Or.inl ⟨?_, ?_⟩) ?_ ?_
        rotate_left 2
        focus (simp only [List.getElem?_toArray, List.getElem?_cons_succ, List.getElem?_cons_zero]; exact rfl)
        iterate 3 focus kernel_rfl
        focus (exact fun _ _ _ h => h)
        focus rfl
        focus ((intro w hSw; (try dsimp only at hSw); go_simp) <;> with_reducible rfl)
        focus assumption
        try simp only [Act.put, List.setIfInBounds_toArray, List.set_cons_zero, List.set_cons_succ]
        refine wpAnyH_ready (rs := [6]) (by kernel_rfl) (by simp) ?_
        refine AllReadyH.cons (o := ?_) ?_ (fun K hK => ?_) ?_
        rotate_left 1
        focus (simp only [List.getElem?_toArray, List.getElem?_cons_succ, List.getElem?_cons_zero]; exact rfl)
        · rw [if_pos (by rfl)]
          go_simp; have hg8 := hHeld.size
          refine hK.out _ _ ?_ ?_
          focus ((try dsimp only); first | exact Keeps.trans (by assumption) (by assumption) | exact nm_keeps_alloc (by assumption) _ | exact hHeld | exact nm_keeps_chg (by assumption) hc9 hg8)
          clear hK K hHeld
          intro hHeld
          try simp only [Act.put, List.setIfInBounds_toArray, List.set_cons_zero, List.set_cons_succ]
          refine wpAnyH_ready (rs := [7]) (by kernel_rfl) (by simp) ?_
          refine AllReadyH.cons (o := ?_) ?_ (fun K hK => ?_) ?_
          rotate_left 1
          focus (simp only [List.getElem?_toArray, List.getElem?_cons_succ, List.getElem?_cons_zero]; exact rfl)
          · rw [if_pos (by rfl)]
            refine cu_store_rowK 70 (.tmp 3) (.tmp 9) rfl _ 0 rfl [.int .u64 0, .int .u64 0, .int .u64 0, .int .u64 0] (X.map (Value.int .u64)) rfl (by first | exact Row.new _ _ _ rfl | exact (Row.new _ _ _ rfl).keeps hk2 | exact ((Row.new _ _ _ rfl).keeps hk1).keeps hk2) (by simp [hwl]) (by rw [List.length_map, hwl]; exact sz_cnum) (int_oneCell _) ?_; intro W9 hr9 hc9
            refine hK.out _ _ ?_ ?_
            focus ((try dsimp only); first | exact Keeps.trans (by assumption) (by assumption) | exact nm_keeps_alloc (by assumption) _ | exact hHeld | exact nm_keeps_chg (by assumption) hc9 hg8)
            clear hK K hHeld
            intro hHeld
            try simp only [Act.put, List.setIfInBounds_toArray, List.set_cons_zero, List.set_cons_succ]
            refine wpAnyH_ready (rs := [8]) (by kernel_rfl) (by simp) ?_
            refine AllReadyH.cons (o := ?_) ?_ (fun K hK => ?_) ?_
            rotate_left 1
            focus (simp only [List.getElem?_toArray, List.getElem?_cons_succ, List.getElem?_cons_zero]; exact rfl)
            · rw [if_pos (by rfl)]
              go_simp
              refine hK.out _ _ ?_ ?_
              focus ((try dsimp only); first | exact Keeps.trans (by assumption) (by assumption) | exact nm_keeps_alloc (by assumption) _ | exact hHeld | exact nm_keeps_chg (by assumption) hc9 hg8)
              clear hK K hHeld
              intro hHeld
              try simp only [Act.put, List.setIfInBounds_toArray, List.set_cons_zero, List.set_cons_succ]
              refine wpAnyH_done (by kernel_rfl) ?_ _
              (go_wp2; go_meet; case rel => exact ⟨by assumption, rfl⟩)
            exact AllReadyH.nil
          exact AllReadyH.nil
        exact AllReadyH.nil
      refine AllReadyH.cons (o := ?_) ?_ (fun K hK => ?_) ?_
      rotate_left 1
      focus (simp only [List.getElem?_toArray, List.getElem?_cons_succ, List.getElem?_cons_zero]; exact rfl)
      · rw [if_pos (by rfl)]
        go_simp; have hg8 := hHeld.size
        refine hK.out _ _ ?_ ?_
        focus ((try dsimp only); first | exact Keeps.trans (by assumption) (by assumption) | exact nm_keeps_alloc (by assumption) _ | exact hHeld | exact nm_keeps_chg (by assumption) hc9 hg8)
        clear hK K hHeld
        intro hHeld
        try simp only [Act.put, List.setIfInBounds_toArray, List.set_cons_zero, List.set_cons_succ]
        refine wpAnyH_ready (rs := [2]) (by kernel_rfl) (by simp) ?_
        refine AllReadyH.cons (o := ?_) ?_ (fun K hK => ?_) ?_
        rotate_left 1
        focus (simp only [List.getElem?_toArray, List.getElem?_cons_succ, List.getElem?_cons_zero]; exact rfl)
        · rw [if_pos (by rfl)]
          go_simp; go_at_call 31; refine (HKEY.out g _ (by first | exact hrow | exact hrow.keeps (nm_keeps_alloc (Keeps.refl _) _))).mono ?_; rintro e W2 ⟨rfl, hk2⟩
          refine hK.out _ _ ?_ ?_
          focus ((try dsimp only); first | exact Keeps.trans (by assumption) (by assumption) | exact nm_keeps_alloc (by assumption) _ | exact hHeld | exact nm_keeps_chg (by assumption) hc9 hg8)
          clear hK K hHeld
          intro hHeld
          try simp only [Act.put, List.setIfInBounds_toArray, List.set_cons_zero, List.set_cons_succ]
          refine wpAnyH_take (i := 3) (oi := ?_) (v := ?_) ?_ ?_ ?_ ?_ ?_ (Or.inl ⟨?_, ?_⟩) ?_ ?_
          rotate_left 2
          focus (simp only [List.getElem?_toArray, List.getElem?_cons_succ, List.getElem?_cons_zero]; exact rfl)
          iterate 3 focus kernel_rfl
          focus (exact fun _ _ _ h => h)
          focus rfl
          focus ((intro w hSw; (try dsimp only at hSw); go_simp) <;> with_reducible rfl)
          focus assumption
          try simp only [Act.put, List.setIfInBounds_toArray, List.set_cons_zero, List.set_cons_succ]
          refine wpAnyH_take (i := 4) (oi := ?_) (v := ?_) ?_ ?_ ?_ ?_ ?_ (Or.inl ⟨?_, ?_⟩) ?_ ?_
          rotate_left 2
          focus (simp only [List.getElem?_toArray, List.getElem?_cons_succ, List.getElem?_cons_zero]; exact rfl)
          iterate 3 focus kernel_rfl
          focus (exact fun _ _ _ h => h)
          focus rfl
          focus ((intro w hSw; (try dsimp only at hSw); go_simp) <;> with_reducible rfl)
          focus assumption
          try simp only [Act.put, List.setIfInBounds_toArray, List.set_cons_zero, List.set_cons_succ]
          refine wpAnyH_take (i := 5) (oi := ?_) (v := ?_) ?_ ?_ ?_ ?_ ?_ (Or.inl ⟨?_, ?_⟩) ?_ ?_
          rotate_left 2
          focus (simp only [List.getElem?_toArray, List.getElem?_cons_succ, List.getElem?_cons_zero]; exact rfl)
          iterate 3 focus kernel_rfl
          focus (exact fun _ _ _ h => h)
          focus rfl
          focus ((intro w hSw; (try dsimp only at hSw); go_simp) <;> with_reducible rfl)
          focus assumption
          try simp only [Act.put, List.setIfInBounds_toArray, List.set_cons_zero, List.set_cons_succ]
          refine wpAnyH_ready (rs := [7]) (by kernel_rfl) (by simp) ?_
          refine AllReadyH.cons (o := ?_) ?_ (fun K hK => ?_) ?_
          rotate_left 1
          focus (simp only [List.getElem?_toArray, List.getElem?_cons_succ, List.getElem?_cons_zero]; exact rfl)
          · rw [if_pos (by rfl)]
            refine cu_store_rowK 70 (.tmp 3) (.tmp 9) rfl _ 0 rfl [.int .u64 0, .int .u64 0, .int .u64 0, .int .u64 0] (X.map (Value.int .u64)) rfl (by first | exact Row.new _ _ _ rfl | exact (Row.new _ _ _ rfl).keeps hk2 | exact ((Row.new _ _ _ rfl).keeps hk1).keeps hk2) (by simp [hwl]) (by rw [List.length_map, hwl]; exact sz_cnum) (int_oneCell _) ?_; intro W9 hr9 hc9
            refine hK.out _ _ ?_ ?_
            focus ((try dsimp only); first | exact Keeps.trans (by assumption) (by assumption) | exact nm_keeps_alloc (by assumption) _ | exact hHeld | exact nm_keeps_chg (by assumption) hc9 hg8)
            clear hK K hHeld
            intro hHeld
            try simp only [Act.put, List.setIfInBounds_toArray, List.set_cons_zero, List.set_cons_succ]
            refine wpAnyH_ready (rs := [8]) (by kernel_rfl) (by simp) ?_
            refine AllReadyH.cons (o := ?_) ?_ (fun K hK => ?_) ?_
            rotate_left 1
            focus (simp only [List.getElem?_toArray, List.getElem?_cons_succ, List.getElem?_cons_zero]; exact rfl)
            · rw [if_pos (by rfl)]
              go_simp
              refine hK.out _ _ ?_ ?_
              focus ((try dsimp only); first | exact Keeps.trans (by assumption) (by assumption) | exact nm_keeps_alloc (by assumption) _ | exact hHeld | exact nm_keeps_chg (by assumption) hc9 hg8)
              clear hK K hHeld
              intro hHeld
              try simp only [Act.put, List.setIfInBounds_toArray, List.set_cons_zero, List.set_cons_succ]
              refine wpAnyH_done (by kernel_rfl) ?_ _
              (go_wp2; go_meet; case rel => exact ⟨by assumption, rfl⟩)
            exact AllReadyH.nil
          exact AllReadyH.nil
        exact AllReadyH.nil
      exact AllReadyH.nil
    refine AllReadyH.cons (o := ?_) ?_ (fun K hK => ?_) ?_
    rotate_left 1
    focus (simp only [List.getElem?_toArray, List.getElem?_cons_succ, List.getElem?_cons_zero]; exact rfl)
    · rw [if_pos (by rfl)]
      go_simp; have hg8 := hHeld.size
      refine hK.out _ _ ?_ ?_
      focus ((try dsimp only); first | exact Keeps.trans (by assumption) (by assumption) | exact nm_keeps_alloc (by assumption) _ | exact hHeld | exact nm_keeps_chg (by assumption) hc9 hg8)
      clear hK K hHeld
      intro hHeld
      try simp only [Act.put, List.setIfInBounds_toArray, List.set_cons_zero, List.set_cons_succ]
      refine wpAnyH_ready (rs := [0]) (by kernel_rfl) (by simp) ?_
      refine AllReadyH.cons (o := ?_) ?_ (fun K hK => ?_) ?_
      rotate_left 1
      focus (simp only [List.getElem?_toArray, List.getElem?_cons_succ, List.getElem?_cons_zero]; exact rfl)
      · rw [if_pos (by rfl)]
        go_simp; go_at_call 30; refine (HCV.out _).mono ?_; rintro e W1 ⟨g, rfl, hk1, hgg, hrow⟩
        refine hK.out _ _ ?_ ?_
        focus ((try dsimp only); first | exact Keeps.trans (by assumption) (by assumption) | exact nm_keeps_alloc (by assumption) _ | exact hHeld | exact nm_keeps_chg (by assumption) hc9 hg8)
        clear hK K hHeld
        intro hHeld
        try simp only [Act.put, List.setIfInBounds_toArray, List.set_cons_zero, List.set_cons_succ]
        refine wpAnyH_ready (rs := [2]) (by kernel_rfl) (by simp) ?_
        refine AllReadyH.cons (o := ?_) ?_ (fun K hK => ?_) ?_
        rotate_left 1
        focus (simp only [List.getElem?_toArray, List.getElem?_cons_succ, List.getElem?_cons_zero]; exact rfl)
        · rw [if_pos (by rfl)]
          go_simp; go_at_call 31; refine (HKEY.out g _ (by first | exact hrow | exact hrow.keeps (nm_keeps_alloc (Keeps.refl _) _))).mono ?_; rintro e W2 ⟨rfl, hk2⟩
          refine hK.out _ _ ?_ ?_
          focus ((try dsimp only); first | exact Keeps.trans (by assumption) (by assumption) | exact nm_keeps_alloc (by assumption) _ | exact hHeld | exact nm_keeps_chg (by assumption) hc9 hg8)
          clear hK K hHeld
          intro hHeld
          try simp only [Act.put, List.setIfInBounds_toArray, List.set_cons_zero, List.set_cons_succ]
          refine wpAnyH_take (i := 3) (oi := ?_) (v := ?_) ?_ ?_ ?_ ?_ ?_ (Or.inl ⟨?_, ?_⟩) ?_ ?_
          rotate_left 2
          focus (simp only [List.getElem?_toArray, List.getElem?_cons_succ, List.getElem?_cons_zero]; exact rfl)
          iterate 3 focus kernel_rfl
          focus (exact fun _ _ _ h => h)
          focus rfl
          focus ((intro w hSw; (try dsimp only at hSw); go_simp) <;> with_reducible rfl)
          focus assumption
          try simp only [Act.put, List.setIfInBounds_toArray, List.set_cons_zero, List.set_cons_succ]
          refine wpAnyH_take (i := 4) (oi := ?_) (v := ?_) ?_ ?_ ?_ ?_ ?_ (Or.inl ⟨?_, ?_⟩) ?_ ?_
          rotate_left 2
          focus (simp only [List.getElem?_toArray, List.getElem?_cons_succ, List.getElem?_cons_zero]; exact rfl)
          iterate 3 focus kernel_rfl
          focus (exact fun _ _ _ h => h)
          focus rfl
          focus ((intro w hSw; (try dsimp only at hSw); go_simp) <;> with_reducible rfl)
          focus assumption
          try simp only [Act.put, List.setIfInBounds_toArray, List.set_cons_zero, List.set_cons_succ]
          refine wpAnyH_take (i := 5) (oi := ?_) (v := ?_) ?_ ?_ ?_ ?_ ?_ (Or.inl ⟨?_, ?_⟩) ?_ ?_
          rotate_left 2
          focus (simp only [List.getElem?_toArray, List.getElem?_cons_succ, List.getElem?_cons_zero]; exact rfl)
          iterate 3 focus kernel_rfl
          focus (exact fun _ _ _ h => h)
          focus rfl
          focus ((intro w hSw; (try dsimp only at hSw); go_simp) <;> with_reducible rfl)
          focus assumption
          try simp only [Act.put, List.setIfInBounds_toArray, List.set_cons_zero, List.set_cons_succ]
          refine wpAnyH_ready (rs := [7]) (by kernel_rfl) (by simp) ?_
          refine AllReadyH.cons (o := ?_) ?_ (fun K hK => ?_) ?_
          rotate_left 1
          focus (simp only [List.getElem?_toArray, List.getElem?_cons_succ, List.getElem?_cons_zero]; exact rfl)
          · rw [if_pos (by rfl)]
            refine cu_store_rowK 70 (.tmp 3) (.tmp 9) rfl _ 0 rfl [.int .u64 0, .int .u64 0, .int .u64 0, .int .u64 0] (X.map (Value.int .u64)) rfl (by first | exact Row.new _ _ _ rfl | exact (Row.new _ _ _ rfl).keeps hk2 | exact ((Row.new _ _ _ rfl).keeps hk1).keeps hk2) (by simp [hwl]) (by rw [List.length_map, hwl]; exact sz_cnum) (int_oneCell _) ?_; intro W9 hr9 hc9
            refine hK.out _ _ ?_ ?_
            focus ((try dsimp only); first | exact Keeps.trans (by assumption) (by assumption) | exact nm_keeps_alloc (by assumption) _ | exact hHeld | exact nm_keeps_chg (by assumption) hc9 hg8)
            clear hK K hHeld
            intro hHeld
            try simp only [Act.put, List.setIfInBounds_toArray, List.set_cons_zero, List.set_cons_succ]
            refine wpAnyH_ready (rs := [8]) (by kernel_rfl) (by simp) ?_
            refine AllReadyH.cons (o := ?_) ?_ (fun K hK => ?_) ?_
            rotate_left 1
            focus (simp only [List.getElem?_toArray, List.getElem?_cons_succ, List.getElem?_cons_zero]; exact rfl)
            · rw [if_pos (by rfl)]
              go_simp
              refine hK.out _ _ ?_ ?_
              focus ((try dsimp only); first | exact Keeps.trans (by assumption) (by assumption) | exact nm_keeps_alloc (by assumption) _ | exact hHeld | exact nm_keeps_chg (by assumption) hc9 hg8)
              clear hK K hHeld
              intro hHeld
              try simp only [Act.put, List.setIfInBounds_toArray, List.set_cons_zero, List.set_cons_succ]
              refine wpAnyH_done (by kernel_rfl) ?_ _
              (go_wp2; go_meet; case rel => exact ⟨by assumption, rfl⟩)
            exact AllReadyH.nil
          exact AllReadyH.nil
        exact AllReadyH.nil
      exact AllReadyH.nil
    exact AllReadyH.nil
  case rest =>
    obtain ⟨hk, rfl⟩ := hcut
    have HKW := Lib.hid (HK.out.trans hk)
    clear hk
    go_wp2
    go_ret
    exact ⟨rfl, HKW.out⟩
end Go.Proofs.YtlofddoojkeakaaDoor
