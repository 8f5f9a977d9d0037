/- The reference's P, Mod, Add, Sub, Mul, bit. No condition. -/
import Derived.Test.YtajipagpdphejaaGB6
import Derived.Test.YtajipagpdphejaaGB7
namespace Go.Proofs.Ytajipagpdphejaa
set_option linter.unusedVariables false
set_option linter.unusedSimpArgs false
open Go Go.RowKit

theorem radd_any (m x y : Int) (hm : RMod m) (hx : U256 x) (hy : U256 y) (w : World) :
    Calls Try.prog 56 #[.agg ((words8 x).map (Value.int .u32)).toArray, .agg ((words8 y).map (Value.int .u32)).toArray, .agg ((words8 m).map (Value.int .u32)).toArray] w fun e w' => e = .returned (.agg ((words8 ((x + y) % m)).map (Value.int .u32)).toArray) ∧ Keeps w w' :=
  raddw_any x y _ _ (words8_length _) (words8_length _) hx hy w (fun L W hl hd hv hk => reduce_any m (x + y) hm L hl hd hv (by have := hx.2; have := hy.2; show x + y < (13407807929942597099574024998205846127479365820592393377723561443721764030073546976801874298166903427690031858186486050853753882811946569946433649006084096 : Int); omega) W)
theorem rmul_any (m x y : Int) (hm : RMod m) (hx : U256 x) (hy : U256 y) (w : World) :
    Calls Try.prog 49 #[.agg ((words8 x).map (Value.int .u32)).toArray, .agg ((words8 y).map (Value.int .u32)).toArray, .agg ((words8 m).map (Value.int .u32)).toArray] w fun e w' => e = .returned (.agg ((words8 (x * y % m)).map (Value.int .u32)).toArray) ∧ Keeps w w' :=
  rmulw_any x y _ _ (words8_length _) (words8_length _) hx hy w (fun L W hl hd hv hk => reduce_any m (x * y) hm L hl hd hv (by
    have h1 : x * y ≤ 115792089237316195423570985008687907853269984665640564039457584007913129639935 * 115792089237316195423570985008687907853269984665640564039457584007913129639935 := Int.le_trans (Int.mul_le_mul_of_nonneg_right (show x ≤ 115792089237316195423570985008687907853269984665640564039457584007913129639935 by have := hx.2; omega) hy.1) (Int.mul_le_mul_of_nonneg_left (by have := hy.2; omega) (by decide))
    exact Int.lt_of_le_of_lt h1 (by decide)) W)
theorem built_rp : Try.prog.built 37 [(0, .int .u32 4294966319), (1, .int .u32 4294967294), (2, .int .u32 4294967295), (3, .int .u32 4294967295), (4, .int .u32 4294967295), (5, .int .u32 4294967295), (6, .int .u32 4294967295), (7, .int .u32 4294967295)] = some ((words8 PV).map (Value.int .u32)).toArray := by kernel_rfl
set_option maxRecDepth 100000 in
theorem rp_any (w : World) : Calls Try.prog 38 #[] w fun e w' => e = .returned (.agg ((words8 PV).map (Value.int .u32)).toArray) ∧ Keeps w w' := by
  have HB := Lib.hid built_rp
  have hl := words8_length PV
  generalize words8 PV = X at *
  go_enter Try.func38, Try.ntmps38
  go_upto_region 1 with (fail)
  refine cu_rows1 (fun W hk hr hs => ?_)
  obtain ⟨Z, hZ, hrz⟩ : ∃ Z : List Value, Z.length = 8 ∧ Row W w.heap.size 0 Z := ⟨_, rfl, hr⟩
  have HR := Lib.hid hrz; have HK := Lib.hid hk
  clear hk hr hrz hs
  go_wp2_with (first | (refine cu_build (by kernel_rfl) 37 _ rfl _ ?_ _ HB.out ?_; focus (simp only [List.map_toArray, List.map_cons, List.map_nil]; rfl)) | (refine wpList_store_row rfl 37 (.tmp 0) (.tmp 1) rfl w.heap.size 0 rfl Z (X.map (Value.int .u32)) rfl HR.out (by rw [List.length_map, hl, hZ]) (by rw [List.length_map, hl]; exact sz_rnum) (int_oneCell _) ?_; intro w9 hr9 hc9; have H9 := Lib.hid hr9; have HC9 := Lib.hid hc9; clear hr9 hc9))
  exact bodyPost_ret (v := .agg (X.map (Value.int .u32)).toArray) (results_cell_at (p := 0) (ty := 37) rfl _ _ w.heap.size 0 _ _ rfl H9.out Try.underlying37 rfl (by rw [List.length_map, hl]; exact sz_rnum)) rfl ⟨rfl, nm_keeps_chg HK.out HC9.out (Nat.le_refl _)⟩
/-- a value that lies in a result's row is stored and returned -/
theorem rmod_any (m x : Int) (hm : U256 m) (hx : U256 x) (w : World) :
    Calls Try.prog 50 #[.agg ((words8 x).map (Value.int .u32)).toArray, .agg ((words8 m).map (Value.int .u32)).toArray] w fun e w' => e = .returned (.agg ((words8 (if x < m then x else x - m)).map (Value.int .u32)).toArray) ∧ Keeps w w' := by
  have HLS := Lib.hid (rless8_any x m hx hm)
  have HMN := Lib.hid (rminus_any x m hx hm)
  have hxl := words8_length x
  have hml := words8_length m
  have hdl := words8_length (x - m)
  by_cases hlt : x < m
  · rw [if_pos hlt]
    rw [decide_eq_true hlt] at HLS
    generalize words8 x = X at *
    generalize words8 m = M at *
    clear hlt HMN hdl
    go_enter Try.func50, Try.ntmps50
    go_upto_region 1 with (fail)
    refine wp_rows3 (fun W hk hra hrb hr2 hs => ?_)
    obtain ⟨p, hp⟩ : ∃ p, p = w.heap.size := ⟨_, rfl⟩
    rw [← hp] at hra hrb hr2 hs ⊢
    have hkp : w.heap.size ≤ p := by omega
    obtain ⟨Z, hZ, hrz⟩ : ∃ Z : List Value, Z.length = 8 ∧ Row W (p + 1 + 1) 0 Z := ⟨_, rfl, hr2⟩
    have HRA := Lib.hid (show Row W p 0 (X.map (Value.int .u32)) from hra); have HRB := Lib.hid (show Row W (p + 1) 0 (M.map (Value.int .u32)) from hrb); have HRZ := Lib.hid hrz; have HK := Lib.hid hk
    clear hp hra hrb hr2 hrz hk hs
    go_upto_region 2 with (first | (refine wpList_load_at rfl 37 (.tmp 2) rfl _ 0 rfl (X.map (Value.int .u32)) _ HRA.out Try.underlying37 rfl (by rw [List.length_map, hxl]; exact sz_rnum) ?_) | (refine wpList_load_at rfl 37 (.tmp 3) rfl _ 0 rfl (M.map (Value.int .u32)) _ HRB.out Try.underlying37 rfl (by rw [List.length_map, hml]; exact sz_rnum) ?_) | (go_at_call 25; refine (HLS.out _).mono ?_; rintro e W1 ⟨rfl, hk1⟩; have HK1 := Lib.hid hk1; clear hk1))
    have HRA := Lib.hid (HRA.out.keeps HK1.out); have HRZ := Lib.hid (HRZ.out.keeps HK1.out); have HK := Lib.hid (HK.out.trans HK1.out)
    go_wp2_with (first | (refine wpList_load_at rfl 37 (.tmp 2) rfl _ 0 rfl (X.map (Value.int .u32)) _ HRA.out Try.underlying37 rfl (by rw [List.length_map, hxl]; exact sz_rnum) ?_) | (refine wpList_store_row rfl 37 (.tmp 4) (.tmp 8) rfl (p + 1 + 1) 0 rfl Z (X.map (Value.int .u32)) rfl HRZ.out (by rw [List.length_map, hxl, hZ]) (by rw [List.length_map, hxl]; exact sz_rnum) (int_oneCell _) ?_; intro w9 hr9 hc9; have H9 := Lib.hid hr9; have HC9 := Lib.hid hc9; clear hr9 hc9))
    exact bodyPost_ret (v := .agg (X.map (Value.int .u32)).toArray) (results_cell_at (p := 4) (ty := 37) rfl _ _ (p + 1 + 1) 0 _ _ rfl H9.out Try.underlying37 rfl (by rw [List.length_map, hxl]; exact sz_rnum)) rfl ⟨rfl, nm_keeps_chg HK.out HC9.out (by omega)⟩
  · rw [if_neg hlt]
    rw [decide_eq_false hlt] at HLS
    generalize words8 (x - m) = D at *
    generalize words8 x = X at *
    generalize words8 m = M at *
    clear hlt
    go_enter Try.func50, Try.ntmps50
    go_upto_region 1 with (fail)
    refine wp_rows3 (fun W hk hra hrb hr2 hs => ?_)
    obtain ⟨p, hp⟩ : ∃ p, p = w.heap.size := ⟨_, rfl⟩
    rw [← hp] at hra hrb hr2 hs ⊢
    have hkp : w.heap.size ≤ p := by omega
    obtain ⟨Z, hZ, hrz⟩ : ∃ Z : List Value, Z.length = 8 ∧ Row W (p + 1 + 1) 0 Z := ⟨_, rfl, hr2⟩
    have HRA := Lib.hid (show Row W p 0 (X.map (Value.int .u32)) from hra); have HRB := Lib.hid (show Row W (p + 1) 0 (M.map (Value.int .u32)) from hrb); have HRZ := Lib.hid hrz; have HK := Lib.hid hk
    clear hp hra hrb hr2 hrz hk hs
    go_upto_region 3 with (first | (refine wpList_load_at rfl 37 (.tmp 2) rfl _ 0 rfl (X.map (Value.int .u32)) _ HRA.out Try.underlying37 rfl (by rw [List.length_map, hxl]; exact sz_rnum) ?_) | (refine wpList_load_at rfl 37 (.tmp 3) rfl _ 0 rfl (M.map (Value.int .u32)) _ HRB.out Try.underlying37 rfl (by rw [List.length_map, hml]; exact sz_rnum) ?_) | (go_at_call 25; refine (HLS.out _).mono ?_; rintro e W1 ⟨rfl, hk1⟩; have HK1 := Lib.hid hk1; clear hk1))
    have HRA := Lib.hid (HRA.out.keeps HK1.out); have HRB := Lib.hid (HRB.out.keeps HK1.out); have HRZ := Lib.hid (HRZ.out.keeps HK1.out); have HK := Lib.hid (HK.out.trans HK1.out)
    go_wp2_with (first | (refine wpList_load_at rfl 37 (.tmp 2) rfl _ 0 rfl (X.map (Value.int .u32)) _ HRA.out Try.underlying37 rfl (by rw [List.length_map, hxl]; exact sz_rnum) ?_) | (refine wpList_load_at rfl 37 (.tmp 3) rfl _ 0 rfl (M.map (Value.int .u32)) _ HRB.out Try.underlying37 rfl (by rw [List.length_map, hml]; exact sz_rnum) ?_) | (go_at_call 60; refine (HMN.out _).mono ?_; rintro e W2 ⟨rfl, hk1⟩; have HK2 := Lib.hid hk1; clear hk1) | (refine wpList_store_row rfl 37 (.tmp 4) (.tmp 11) rfl (p + 1 + 1) 0 rfl Z (D.map (Value.int .u32)) rfl (HRZ.out.keeps HK2.out) (by rw [List.length_map, hdl, hZ]) (by rw [List.length_map, hdl]; exact sz_rnum) (int_oneCell _) ?_; intro w9 hr9 hc9; have H9 := Lib.hid hr9; have HC9 := Lib.hid hc9; clear hr9 hc9))
    exact bodyPost_ret (v := .agg (D.map (Value.int .u32)).toArray) (results_cell_at (p := 4) (ty := 37) rfl _ _ (p + 1 + 1) 0 _ _ rfl H9.out Try.underlying37 rfl (by rw [List.length_map, hdl]; exact sz_rnum)) rfl ⟨rfl, nm_keeps_chg (HK.out.trans HK2.out) HC9.out (by omega)⟩
theorem rsubw_any (m x y : Int) (hm : U256 m) (hx : 0 ≤ x ∧ x < m) (hy : 0 ≤ y ∧ y < m) (w : World) :
    Calls Try.prog 26 #[.agg ((words8 x).map (Value.int .u32)).toArray, .agg ((words8 y).map (Value.int .u32)).toArray, .agg ((words8 m).map (Value.int .u32)).toArray] w fun e w' => e = .returned (.agg ((words8 (if x < y then m - (y - x) else x - y)).map (Value.int .u32)).toArray) ∧ Keeps w w' := by
  have hx2 : U256 x := ⟨hx.1, Int.lt_trans hx.2 hm.2⟩
  have hy2 : U256 y := ⟨hy.1, Int.lt_trans hy.2 hm.2⟩
  have HLS := Lib.hid (rless8_any x y hx2 hy2)
  have HMN := Lib.hid (rminus_any x y hx2 hy2)
  have HM1 := Lib.hid (rminus_any y x hy2 hx2)
  have hxl := words8_length x
  have hyl := words8_length y
  have hml := words8_length m
  have hdl := words8_length (x - y)
  have hel := words8_length (m - (y - x))
  by_cases hlt : x < y
  · have HM2 := Lib.hid (rminus_any m (y - x) hm ⟨by omega, by have := hy2.2; omega⟩)
    rw [if_pos hlt]
    rw [decide_eq_true hlt] at HLS
    generalize words8 (m - (y - x)) = E at *
    generalize words8 (y - x) = YX at *
    generalize words8 x = X at *
    generalize words8 y = Y at *
    generalize words8 m = M at *
    clear hlt HMN hdl hx hy hx2 hy2 hm
    go_enter Try.func26, Try.ntmps26
    go_upto_region 1 with (fail)
    refine wp_rows4 (fun W hk hra hrb hrm hr2 hs => ?_)
    obtain ⟨p, hp⟩ : ∃ p, p = w.heap.size := ⟨_, rfl⟩
    rw [← hp] at hra hrb hrm hr2 hs ⊢
    have hkp : w.heap.size ≤ p := by omega
    obtain ⟨Z, hZ, hrz⟩ : ∃ Z : List Value, Z.length = 8 ∧ Row W (p + 1 + 1 + 1) 0 Z := ⟨_, rfl, hr2⟩
    have HRA := Lib.hid (show Row W p 0 (X.map (Value.int .u32)) from hra); have HRB := Lib.hid (show Row W (p + 1) 0 (Y.map (Value.int .u32)) from hrb); have HRM := Lib.hid (show Row W (p + 1 + 1) 0 (M.map (Value.int .u32)) from hrm); have HRZ := Lib.hid hrz; have HK := Lib.hid hk
    clear hp hra hrb hrm hr2 hrz hk hs
    go_upto_region 2 with (first | (refine wpList_load_at rfl 37 (.tmp 3) rfl _ 0 rfl (X.map (Value.int .u32)) _ HRA.out Try.underlying37 rfl (by rw [List.length_map, hxl]; exact sz_rnum) ?_) | (refine wpList_load_at rfl 37 (.tmp 4) rfl _ 0 rfl (Y.map (Value.int .u32)) _ HRB.out Try.underlying37 rfl (by rw [List.length_map, hyl]; exact sz_rnum) ?_) | (go_at_call 25; refine (HLS.out _).mono ?_; rintro e W1 ⟨rfl, hk1⟩; have HK1 := Lib.hid hk1; clear hk1))
    have HRA := Lib.hid (HRA.out.keeps HK1.out); have HRB := Lib.hid (HRB.out.keeps HK1.out); have HRM := Lib.hid (HRM.out.keeps HK1.out); have HRZ := Lib.hid (HRZ.out.keeps HK1.out); have HK := Lib.hid (HK.out.trans HK1.out)
    refine wp_region_keep 5 [] [0, 1, 2, 3, 4] (fun _ => []) (by kernel_rfl) (by kernel_rfl) (by intro i hi; cases hi) ?_
    refine keep_pure (o := ?_) (v := ?_) ?_ ?_ ?_ ?_
    rotate_left 2
    focus (simp only [kG]; exact rfl)
    focus rfl
    focus (intro wS hS; (refine cu_run_load 37 (.tmp 5) ?_ (p + 1 + 1) 0 ?_ (M.map (Value.int .u32)) _ (HRM.out.keeps hS) Try.underlying37 rfl (by rw [List.length_map, hml]; exact sz_rnum)) <;> rfl)
    try simp only [kP]
    refine keep_pure (o := ?_) (v := ?_) ?_ ?_ ?_ ?_
    rotate_left 2
    focus (simp only [kG]; exact rfl)
    focus rfl
    focus (intro wS hS; (refine cu_run_load 37 (.tmp 4) ?_ (p + 1) 0 ?_ (Y.map (Value.int .u32)) _ (HRB.out.keeps hS) Try.underlying37 rfl (by rw [List.length_map, hyl]; exact sz_rnum)) <;> rfl)
    try simp only [kP]
    refine keep_pure (o := ?_) (v := ?_) ?_ ?_ ?_ ?_
    rotate_left 2
    focus (simp only [kG]; exact rfl)
    focus rfl
    focus (intro wS hS; (refine cu_run_load 37 (.tmp 3) ?_ p 0 ?_ (X.map (Value.int .u32)) _ (HRA.out.keeps hS) Try.underlying37 rfl (by rw [List.length_map, hxl]; exact sz_rnum)) <;> rfl)
    try simp only [kP]
    refine keep_call (o := ?_) (f := ?_) (args := ?_) (v := ?_) ?_ ?_ ?_ ?_ ?_
    rotate_left 4
    focus (simp only [kG]; exact rfl)
    focus rfl
    focus (intro wS; go_simp; refine ⟨?_, ?_⟩ <;> with_reducible rfl)
    focus (intro wS hS; exact HM1.out wS)
    try simp only [kP]
    refine keep_call (o := ?_) (f := ?_) (args := ?_) (v := ?_) ?_ ?_ ?_ ?_ ?_
    rotate_left 4
    focus (simp only [kG]; exact rfl)
    focus rfl
    focus (intro wS; go_simp; refine ⟨?_, ?_⟩ <;> with_reducible rfl)
    focus (intro wS hS; exact HM2.out wS)
    try simp only [kP]
    refine keep_nil ?_
    intro GG V2 hk1 hG
    clear hG
    simp only [putsA, dstAt, Act.put, ptrV, List.drop_succ_cons, List.drop_zero, List.getElem?_toArray, List.getElem?_cons_succ, List.getElem?_cons_zero, Option.bind_some, List.setIfInBounds_toArray, List.set_cons_zero, List.set_cons_succ]
    have HRZ := Lib.hid (HRZ.out.keeps hk1)
    have HK := Lib.hid (HK.out.trans hk1)
    clear hk1
    go_wp2_with (refine wpList_store_row rfl 37 (.tmp 6) (.tmp 14) rfl (p + 1 + 1 + 1) 0 rfl Z (E.map (Value.int .u32)) rfl HRZ.out (by rw [List.length_map, hel, hZ]) (by rw [List.length_map, hel]; exact sz_rnum) (int_oneCell _) ?_; intro w9 hr9 hc9; have H9 := Lib.hid hr9; have HC9 := Lib.hid hc9; clear hr9 hc9)
    exact bodyPost_ret (v := .agg (E.map (Value.int .u32)).toArray) (results_cell_at (p := 6) (ty := 37) rfl _ _ (p + 1 + 1 + 1) 0 _ _ rfl H9.out Try.underlying37 rfl (by rw [List.length_map, hel]; exact sz_rnum)) rfl ⟨rfl, nm_keeps_chg HK.out HC9.out (by omega)⟩
  · rw [if_neg hlt]
    rw [decide_eq_false hlt] at HLS
    generalize words8 (x - y) = D at *
    generalize words8 x = X at *
    generalize words8 y = Y at *
    generalize words8 m = M at *
    clear hlt HM1 hel hx hy hx2 hy2 hm
    go_enter Try.func26, Try.ntmps26
    go_upto_region 1 with (fail)
    refine wp_rows4 (fun W hk hra hrb hrm hr2 hs => ?_)
    obtain ⟨p, hp⟩ : ∃ p, p = w.heap.size := ⟨_, rfl⟩
    rw [← hp] at hra hrb hrm hr2 hs ⊢
    have hkp : w.heap.size ≤ p := by omega
    obtain ⟨Z, hZ, hrz⟩ : ∃ Z : List Value, Z.length = 8 ∧ Row W (p + 1 + 1 + 1) 0 Z := ⟨_, rfl, hr2⟩
    have HRA := Lib.hid (show Row W p 0 (X.map (Value.int .u32)) from hra); have HRB := Lib.hid (show Row W (p + 1) 0 (Y.map (Value.int .u32)) from hrb); have HRZ := Lib.hid hrz; have HK := Lib.hid hk
    clear hp hra hrb hrm hr2 hrz hk hs
    go_upto_region 3 with (first | (refine wpList_load_at rfl 37 (.tmp 3) rfl _ 0 rfl (X.map (Value.int .u32)) _ HRA.out Try.underlying37 rfl (by rw [List.length_map, hxl]; exact sz_rnum) ?_) | (refine wpList_load_at rfl 37 (.tmp 4) rfl _ 0 rfl (Y.map (Value.int .u32)) _ HRB.out Try.underlying37 rfl (by rw [List.length_map, hyl]; exact sz_rnum) ?_) | (go_at_call 25; refine (HLS.out _).mono ?_; rintro e W1 ⟨rfl, hk1⟩; have HK1 := Lib.hid hk1; clear hk1))
    have HRA := Lib.hid (HRA.out.keeps HK1.out); have HRB := Lib.hid (HRB.out.keeps HK1.out); have HRZ := Lib.hid (HRZ.out.keeps HK1.out); have HK := Lib.hid (HK.out.trans HK1.out)
    go_wp2_with (first | (refine wpList_load_at rfl 37 (.tmp 3) rfl _ 0 rfl (X.map (Value.int .u32)) _ HRA.out Try.underlying37 rfl (by rw [List.length_map, hxl]; exact sz_rnum) ?_) | (refine wpList_load_at rfl 37 (.tmp 4) rfl _ 0 rfl (Y.map (Value.int .u32)) _ HRB.out Try.underlying37 rfl (by rw [List.length_map, hyl]; exact sz_rnum) ?_) | (go_at_call 60; refine (HMN.out _).mono ?_; rintro e W2 ⟨rfl, hk1⟩; have HK2 := Lib.hid hk1; clear hk1) | (refine wpList_store_row rfl 37 (.tmp 6) (.tmp 17) rfl (p + 1 + 1 + 1) 0 rfl Z (D.map (Value.int .u32)) rfl (HRZ.out.keeps HK2.out) (by rw [List.length_map, hdl, hZ]) (by rw [List.length_map, hdl]; exact sz_rnum) (int_oneCell _) ?_; intro w9 hr9 hc9; have H9 := Lib.hid hr9; have HC9 := Lib.hid hc9; clear hr9 hc9))
    exact bodyPost_ret (v := .agg (D.map (Value.int .u32)).toArray) (results_cell_at (p := 6) (ty := 37) rfl _ _ (p + 1 + 1 + 1) 0 _ _ rfl H9.out Try.underlying37 rfl (by rw [List.length_map, hdl]; exact sz_rnum)) rfl ⟨rfl, nm_keeps_chg (HK.out.trans HK2.out) HC9.out (by omega)⟩
theorem rsub_any (m x y : Int) (hm : U256 m) (hx : 0 ≤ x ∧ x < m) (hy : 0 ≤ y ∧ y < m) (w : World) :
    Calls Try.prog 26 #[.agg ((words8 x).map (Value.int .u32)).toArray, .agg ((words8 y).map (Value.int .u32)).toArray, .agg ((words8 m).map (Value.int .u32)).toArray] w fun e w' => e = .returned (.agg ((words8 ((x - y) % m)).map (Value.int .u32)).toArray) ∧ Keeps w w' := by
  have := rsubw_any m x y hm hx hy w
  have e : (if x < y then m - (y - x) else x - y) = (x - y) % m := by
    split
    · rw [show x - y = (m - (y - x)) - m by omega, Int.sub_emod_right, Int.emod_eq_of_lt (by omega) (by omega)]
    · rw [Int.emod_eq_of_lt (by omega) (by omega)]
  rwa [e] at this
/-- a bit of eight words -/
theorem words8_bit (e : Nat) (i : Nat) (hi : i < 256) : (words8 (e : Int)).getD (i / 32) 0 / 2 ^ (i % 32) % 2 = ((e / 2 ^ i % 2 : Nat) : Int) := by
  rw [words8_getD _ _ (by omega)]
  have h1 : ((4294967296 : Int) ^ (i / 32)) = ((2 ^ (32 * (i / 32)) : Nat) : Int) := by
    rw [show (4294967296 : Int) = ((2 ^ 32 : Nat) : Int) by decide, ← Int.natCast_pow, ← Nat.pow_mul]
  have h2 : ((2 : Int) ^ (i % 32)) = ((2 ^ (i % 32) : Nat) : Int) := by rw [Int.natCast_pow]; rfl
  have h3 : (4294967296 : Int) = ((2 ^ 32 : Nat) : Int) := by decide
  rw [h1, h2, h3]
  norm_cast
  have h4 : i = 32 * (i / 32) + i % 32 := by omega
  conv => rhs; rw [h4, Nat.pow_add, ← Nat.div_div_eq_div_mul]
  generalize e / 2 ^ (32 * (i / 32)) = q
  have h5 : i % 32 < 32 := Nat.mod_lt _ (by decide)
  generalize i % 32 = r at *
  rw [show (2 ^ 32 : Nat) = 2 ^ r * 2 ^ (32 - r) by rw [← Nat.pow_add, show r + (32 - r) = 32 by omega], Nat.mod_mul_right_div_self, show 32 - r = 1 + (31 - r) by omega, Nat.pow_add, Nat.pow_one, Nat.mod_mul_right_mod]
set_option maxRecDepth 100000 in
theorem rbit_any (E : List Int) (hE : E.length = 8) (hER : ∀ i, i < 8 → 0 ≤ E.getD i 0 ∧ E.getD i 0 < 4294967296) (i : Nat) (hi : i < 256) (w : World) :
    Calls Try.prog 66 #[.agg (E.map (Value.int .u32)).toArray, .int .i64 i] w fun e w' => e = .returned (.bool (decide (E.getD (i / 32) 0 / 2 ^ (i % 32) % 2 = 1))) ∧ Keeps w w' := by
  obtain ⟨R, hR⟩ : ∃ R, R = decide (E.getD (i / 32) 0 / 2 ^ (i % 32) % 2 = 1) := ⟨_, rfl⟩
  rw [← hR]
  have HR := Lib.hid hR
  clear hR
  have h0 := hER (i / 32) (by omega)
  have hi9 : i / 32 < 8 := by omega
  have hi6 : i % 32 < 32 := Nat.mod_lt _ (by decide)
  have hi3 : (i : Int) < 256 := by omega
  go_enter Try.func66, Try.ntmps66
  go_upto_region 1 with (fail)
  refine cu_rows1 (fun W hk hr hs => ?_)
  have c1 := (show Row W w.heap.size 0 (E.map (Value.int .u32)) from hr).int0 (i / 32) (by omega)
  have HK := Lib.hid hk
  clear hk hr hs hER
  generalize E.getD (i / 32) 0 = x at *
  generalize w.heap.size = p at *
  go_wp2
  go_ret
  have ht : (x / 2 ^ (i % 32)).tmod 2 = x / 2 ^ (i % 32) % 2 := Int.tmod_eq_emod_of_nonneg (Int.ediv_nonneg h0.1 (Int.le_of_lt (Int.pow_pos (by decide))))
  exact ⟨show Ending.returned (.bool ((x / 2 ^ (i % 32)).tmod 2 == 1)) = _ from ret_bool (by rw [ht, HR.out]; rfl), HK.out⟩
end Go.Proofs.Ytajipagpdphejaa
