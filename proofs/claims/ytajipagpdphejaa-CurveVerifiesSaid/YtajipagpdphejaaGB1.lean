/- The reference's Less, N and Key. No condition. -/
import Derived.Test.YtajipagpdphejaaGB0
namespace Go.Proofs.Ytajipagpdphejaa
set_option linter.unusedVariables false
set_option linter.unusedSimpArgs false
open Go Go.RowKit

set_option maxRecDepth 100000 in
set_option maxHeartbeats 4000000 in
theorem rless8_any (u v : Int) (hu : U256 u) (hv : U256 v) (w : World) :
    Calls Try.prog 25 #[.agg ((words8 u).map (Value.int .u32)).toArray, .agg ((words8 v).map (Value.int .u32)).toArray] w fun e w' => e = .returned (.bool (decide (u < v))) ∧ Keeps w w' := by
  have hsu := words8_step u
  have hsv := words8_step v
  have htu := u256_top hu
  have htv := u256_top hv
  have hul := words8_length u
  have hvl := words8_length v
  generalize words8 u = U at *
  generalize words8 v = V at *
  have HSU := Lib.hid hsu; have HSV := Lib.hid hsv; have HUL := Lib.hid hul; have HVL := Lib.hid hvl
  have H8 := Lib.hid (show u / 4294967296 ^ 8 = v / 4294967296 ^ 8 by rw [htu, htv])
  clear hsu hsv htu htv hul hvl hu hv
  obtain ⟨RR, hRR⟩ : ∃ RR : Bool, RR = decide (u < v) := ⟨_, rfl⟩
  rw [← hRR]
  have HRR := Lib.hid hRR
  clear hRR
  go_enter Try.func25, Try.ntmps25
  go_upto_region 1 with (fail)
  refine cu_rows2 (fun W hk hra hrb hs => ?_)
  have HRA := Lib.hid (show Row W w.heap.size 0 (U.map (Value.int .u32)) from hra); have HRB := Lib.hid (show Row W (w.heap.size + 1) 0 (V.map (Value.int .u32)) from hrb); have HK := Lib.hid hk
  clear hra hrb hs hk
  generalize w.heap.size = p at *
  go_wp2
  go_loopw [5] (fun c wr => ∃ (k : Nat) (z : Int), k ≤ 8 ∧ c = .int .i64 z ∧ Hid (z = (k : Int) - 1) ∧ Hid (Keeps W wr) ∧ Hid (u / 4294967296 ^ k = v / 4294967296 ^ k)) (fun c _ => (intOf c + 1).toNat)
  case atStart => exact ⟨8, 7, by omega, rfl, Lib.hid (by omega), Lib.hid (Keeps.refl _), H8⟩
  case round =>
    obtain ⟨k, z, hk8, rfl, HZ, HKR, HE⟩ := hrel
    have hkc : k = 0 ∨ ∃ i, k = i + 1 := by
      cases k with
      | zero => exact .inl rfl
      | succ i => exact .inr ⟨i, rfl⟩
    rcases hkc with rfl | ⟨i, rfl⟩
    · obtain rfl : z = -1 := by have := HZ.out; omega
      obtain rfl : RR = false := by
        have := HE.out
        simp only [Int.pow_zero, Int.ediv_one] at this
        rw [HRR.out]
        exact decide_eq_false (by omega)
      go_wp2
      go_ret
      exact ⟨rfl, HK.out.trans HKR.out⟩
    · obtain rfl : z = (i : Int) := by have := HZ.out; omega
      have hi : i < 8 := by omega
      have c1 := (HRA.out.keeps HKR.out).int0 i (by rw [HUL.out]; exact hi)
      have c2 := (HRB.out.keeps HKR.out).int0 i (by rw [HVL.out]; exact hi)
      have h1 := HSU.out i hi
      have h2 := HSV.out i hi
      have hd : U.getD i 0 < V.getD i 0 → u < v := fun h => less_top i (by rw [h1, h2, HE.out]; omega)
      have hd2 : V.getD i 0 < U.getD i 0 → v < u := fun h => less_top i (by rw [h1, h2, HE.out]; omega)
      have hd3 : U.getD i 0 = V.getD i 0 → u / 4294967296 ^ i = v / 4294967296 ^ i := fun h => by rw [h1, h2, HE.out, h]
      have HD := Lib.hid hd; have HD2 := Lib.hid hd2; have HD3 := Lib.hid hd3
      clear h1 h2 hd hd2 hd3
      generalize U.getD i 0 = x at *
      generalize V.getD i 0 = y at *
      by_cases hx : x = y
      · have z1 : (x != y) = false := by rw [bne_eq_false_iff_eq]; exact hx
        have HX := Lib.hid (HD3.out hx)
        clear hx
        go_wp2
        go_quiet (fail)
        go_wp2
        go_roundw
        case rel => exact ⟨i, (i : Int) - 1, by omega, rfl, Lib.hid rfl, Lib.hid (HKR.out.trans (Qt.drewN _ _).keeps), HX⟩
        case measure => simp [intOf] <;> omega
      · have z1 : (x != y) = true := by rw [bne_iff_ne]; exact hx
        obtain rfl : RR = decide (x < y) := by
          rw [HRR.out]
          by_cases h : x < y
          · rw [decide_eq_true h, decide_eq_true (HD.out h)]
          · have := HD2.out (by omega)
            rw [decide_eq_false h, decide_eq_false (by omega)]
        clear hx
        go_wp2
        go_quiet (fail)
        go_wp2
        go_quiet (fail)
        go_wp2
        go_ret
        exact ⟨by first | rfl | exact ret_bool (by simp), HK.out.trans ((HKR.out.trans (Qt.drewN _ _).keeps).trans (Qt.drewN _ _).keeps)⟩
/-- the order of the group -/
def NV : Int := 115792089237316195423570985008687907852837564279074904382605163141518161494337
theorem NV_u256 : U256 NV := by unfold U256 NV; exact ⟨by decide, by decide⟩
theorem built_rn : Try.prog.built 37 [(0, .int .u32 3493216577), (1, .int .u32 3218235020), (2, .int .u32 2940772411), (3, .int .u32 3132021990), (4, .int .u32 4294967294), (5, .int .u32 4294967295), (6, .int .u32 4294967295), (7, .int .u32 4294967295)] = some ((words8 NV).map (Value.int .u32)).toArray := by kernel_rfl
theorem built_rnum0 : Try.prog.built 37 [] = some ((words8 0).map (Value.int .u32)).toArray := by kernel_rfl
set_option maxRecDepth 100000 in
theorem rn_any (w : World) : Calls Try.prog 27 #[] w fun e w' => e = .returned (.agg ((words8 NV).map (Value.int .u32)).toArray) ∧ Keeps w w' := by
  have HB := Lib.hid built_rn
  have hl := words8_length NV
  generalize words8 NV = X at *
  go_enter Try.func27, Try.ntmps27
  go_upto_region 1 with (fail)
  refine cu_rows1 (fun W hk hr hs => ?_)
  obtain ⟨Z, hZ, hrz⟩ : ∃ Z : List Value, Z.length = 8 ∧ Row W w.heap.size 0 Z := ⟨_, rfl, hr⟩
  have HR := Lib.hid hrz; have HK := Lib.hid hk
  clear hk hr hrz hs
  go_wp2_with (first | (refine cu_build (by kernel_rfl) 37 _ rfl _ ?_ _ HB.out ?_; focus (simp only [List.map_toArray, List.map_cons, List.map_nil]; rfl)) | (refine wpList_store_row rfl 37 (.tmp 0) (.tmp 1) rfl w.heap.size 0 rfl Z (X.map (Value.int .u32)) rfl HR.out (by rw [List.length_map, hl, hZ]) (by rw [List.length_map, hl]; exact sz_rnum) (int_oneCell _) ?_; intro w9 hr9 hc9; have H9 := Lib.hid hr9; have HC9 := Lib.hid hc9; clear hr9 hc9))
  exact bodyPost_ret (v := .agg (X.map (Value.int .u32)).toArray) (results_cell_at (p := 0) (ty := 37) rfl _ _ w.heap.size 0 _ _ rfl H9.out Try.underlying37 rfl (by rw [List.length_map, hl]; exact sz_rnum)) rfl ⟨rfl, nm_keeps_chg HK.out HC9.out (Nat.le_refl _)⟩
/-- is a number a key? -/
def keyB (x : Int) : Bool := decide (0 < x ∧ x < NV)
theorem keyB_zero {x : Int} (h : x = 0) : keyB x = false := decide_eq_false (by omega)
theorem keyB_pos {x : Int} (h : U256 x) (h0 : ¬ x = 0) : keyB x = decide (x < NV) := by
  have := h.1
  unfold keyB
  by_cases h1 : x < NV
  · rw [decide_eq_true h1, decide_eq_true ⟨by omega, h1⟩]
  · rw [decide_eq_false h1, decide_eq_false (fun h => h1 h.2)]
set_option maxRecDepth 100000 in
set_option maxHeartbeats 1000000 in
theorem rkey_any (x : Int) (hx : U256 x) (w : World) : Calls Try.prog 33 #[.agg ((words8 x).map (Value.int .u32)).toArray] w fun e w' => e = .returned (.bool (keyB x)) ∧ Keeps w w' := by
  have HE := Lib.hid (fun W => rnum_equal x 0 hx ⟨by omega, by decide⟩ W)
  have HLS := Lib.hid (rless8_any x NV hx NV_u256)
  have HN := Lib.hid rn_any
  have hl := words8_length x
  have hb0 := built_rnum0
  have HB0 := Lib.hid hb0
  clear hb0
  generalize words8 x = X at *
  generalize words8 NV = Y at *
  generalize words8 0 = Z at *
  by_cases h0 : x = 0
  · rw [keyB_zero h0]
    rw [decide_eq_true h0] at HE
    clear h0 HLS
    go_enter Try.func33, Try.ntmps33
    go_upto_region 1 with (fail)
    refine cu_rows1 (fun W0 hk hr hs => ?_)
    have HR := Lib.hid (show Row W0 w.heap.size 0 (X.map (Value.int .u32)) from hr); have HK := Lib.hid hk
    clear hk hr hs
    generalize w.heap.size = p at *
    refine wp_region_head (S := fun W => Hid ((fun W' => Keeps W0 W') W)) 7 (by kernel_rfl) (by kernel_rfl) ?_ (fun hHeld => ?_)
    focus exact Lib.hid (keeps_drew1 (Keeps.refl _))
    refine wpAnyHL_take (i := 0) (oi := ?_) (v := ?_) ?_ ?_ ?_ ?_ ?_ ?_ ?_ ?_ ?_ (Or.inl ⟨?_, ?_⟩) ?_ ?_
    rotate_left 2
    focus (simp only [List.getElem?_toArray, List.getElem?_cons_succ, List.getElem?_cons_zero]; exact rfl)
    iterate 7 focus kernel_rfl
    focus (exact fun _ _ _ h => h)
    focus rfl
    focus (intro wSw hSw; (have hSw := hSw.out); (refine cu_run_load 37 (.tmp 1) ?_ p 0 ?_ _ _ (HR.out.keeps hSw) Try.underlying37 rfl (by rw [List.length_map, hl]; exact sz_rnum)) <;> rfl)
    focus assumption
    try simp only [Act.put, List.setIfInBounds_toArray, List.set_cons_zero, List.set_cons_succ]
    refine wpAnyHL_take (i := 1) (oi := ?_) (v := ?_) ?_ ?_ ?_ ?_ ?_ ?_ ?_ ?_ ?_ (Or.inl ⟨?_, ?_⟩) ?_ ?_
    rotate_left 2
    focus (simp only [List.getElem?_toArray, List.getElem?_cons_succ, List.getElem?_cons_zero]; exact rfl)
    iterate 7 focus kernel_rfl
    focus (exact fun _ _ _ h => h)
    focus rfl
    focus (intro wSw hSw; (have hSw := hSw.out); (refine cu_run_build 37 [] ?_ [] ?_ _ HB0.out) <;> rfl)
    focus assumption
    try simp only [Act.put, List.setIfInBounds_toArray, List.set_cons_zero, List.set_cons_succ]
    refine wpAnyHL_take (i := 2) (oi := ?_) (v := ?_) ?_ ?_ ?_ ?_ ?_ ?_ ?_ ?_ ?_ (Or.inl ⟨?_, ?_⟩) ?_ ?_
    rotate_left 2
    focus (simp only [List.getElem?_toArray, List.getElem?_cons_succ, List.getElem?_cons_zero]; exact rfl)
    iterate 7 focus kernel_rfl
    focus (exact fun _ _ _ h => h)
    focus rfl
    focus (intro wSw hSw; (have hSw := hSw.out); (refine cu_run_neq 37 37 (.tmp 3) (.tmp 4) ?_ _ _ ?_ ?_ true HE.out (by kernel_rfl)) <;> rfl)
    focus assumption
    try simp only [Act.put, List.setIfInBounds_toArray, List.set_cons_zero, List.set_cons_succ]
    refine wpAnyHL_take (i := 3) (oi := ?_) (v := ?_) ?_ ?_ ?_ ?_ ?_ ?_ ?_ ?_ ?_ (Or.inl ⟨?_, ?_⟩) ?_ ?_
    rotate_left 2
    focus (simp only [List.getElem?_toArray, List.getElem?_cons_succ, List.getElem?_cons_zero]; exact rfl)
    iterate 7 focus kernel_rfl
    focus (exact fun _ _ _ h => h)
    focus rfl
    focus ((intro wSw hSw; (have hSw := hSw.out); (try dsimp only at hSw); go_simp) <;> with_reducible rfl)
    focus assumption
    try simp only [Act.put, List.setIfInBounds_toArray, List.set_cons_zero, List.set_cons_succ]
    refine wpAnyHL_take (i := 4) (oi := ?_) (v := undef) ?_ ?_ ?_ ?_ ?_ ?_ ?_ ?_ ?_ (Or.inr ⟨?_, rfl⟩) ?_ ?_
    rotate_left 1
    focus (simp only [List.getElem?_toArray, List.getElem?_cons_succ, List.getElem?_cons_zero]; exact rfl)
    iterate 7 focus kernel_rfl
    focus (exact fun _ _ _ h => h)
    focus rfl
    focus assumption
    try simp only [Act.put, List.setIfInBounds_toArray, List.set_cons_zero, List.set_cons_succ]
    refine wpAnyHL_take (i := 5) (oi := ?_) (v := undef) ?_ ?_ ?_ ?_ ?_ ?_ ?_ ?_ ?_ (Or.inr ⟨?_, rfl⟩) ?_ ?_
    rotate_left 1
    focus (simp only [List.getElem?_toArray, List.getElem?_cons_succ, List.getElem?_cons_zero]; exact rfl)
    iterate 7 focus kernel_rfl
    focus (exact fun _ _ _ h => h)
    focus rfl
    focus assumption
    try simp only [Act.put, List.setIfInBounds_toArray, List.set_cons_zero, List.set_cons_succ]
    refine wpAnyHL_take (i := 6) (oi := ?_) (v := undef) ?_ ?_ ?_ ?_ ?_ ?_ ?_ ?_ ?_ (Or.inr ⟨?_, rfl⟩) ?_ ?_
    rotate_left 1
    focus (simp only [List.getElem?_toArray, List.getElem?_cons_succ, List.getElem?_cons_zero]; exact rfl)
    iterate 7 focus kernel_rfl
    focus (exact fun _ _ _ h => h)
    focus rfl
    focus assumption
    try simp only [Act.put, List.setIfInBounds_toArray, List.set_cons_zero, List.set_cons_succ]
    refine wpAnyHL_done (by kernel_rfl) ?_
    try simp only [List.drop_succ_cons, List.drop_zero]
    go_wp2
    go_ret
    exact ⟨by first | rfl | exact ret_bool (by simp), HK.out.trans hHeld.out⟩
  · rw [keyB_pos hx h0]
    rw [decide_eq_false h0] at HE
    clear h0
    generalize decide (x < NV) = D at *
    go_enter Try.func33, Try.ntmps33
    go_upto_region 1 with (fail)
    refine cu_rows1 (fun W0 hk hr hs => ?_)
    have HR := Lib.hid (show Row W0 w.heap.size 0 (X.map (Value.int .u32)) from hr); have HK := Lib.hid hk
    clear hk hr hs
    generalize w.heap.size = p at *
    refine wp_region_head (S := fun W => Hid ((fun W' => Keeps W0 W') W)) 7 (by kernel_rfl) (by kernel_rfl) ?_ (fun hHeld => ?_)
    focus exact Lib.hid (keeps_drew1 (Keeps.refl _))
    refine wpAnyHL_take (i := 0) (oi := ?_) (v := ?_) ?_ ?_ ?_ ?_ ?_ ?_ ?_ ?_ ?_ (Or.inl ⟨?_, ?_⟩) ?_ ?_
    rotate_left 2
    focus (simp only [List.getElem?_toArray, List.getElem?_cons_succ, List.getElem?_cons_zero]; exact rfl)
    iterate 7 focus kernel_rfl
    focus (exact fun _ _ _ h => h)
    focus rfl
    focus (intro wSw hSw; (have hSw := hSw.out); (refine cu_run_load 37 (.tmp 1) ?_ p 0 ?_ _ _ (HR.out.keeps hSw) Try.underlying37 rfl (by rw [List.length_map, hl]; exact sz_rnum)) <;> rfl)
    focus assumption
    try simp only [Act.put, List.setIfInBounds_toArray, List.set_cons_zero, List.set_cons_succ]
    refine wpAnyHL_take (i := 1) (oi := ?_) (v := ?_) ?_ ?_ ?_ ?_ ?_ ?_ ?_ ?_ ?_ (Or.inl ⟨?_, ?_⟩) ?_ ?_
    rotate_left 2
    focus (simp only [List.getElem?_toArray, List.getElem?_cons_succ, List.getElem?_cons_zero]; exact rfl)
    iterate 7 focus kernel_rfl
    focus (exact fun _ _ _ h => h)
    focus rfl
    focus (intro wSw hSw; (have hSw := hSw.out); (refine cu_run_build 37 [] ?_ [] ?_ _ HB0.out) <;> rfl)
    focus assumption
    try simp only [Act.put, List.setIfInBounds_toArray, List.set_cons_zero, List.set_cons_succ]
    refine wpAnyHL_take (i := 2) (oi := ?_) (v := ?_) ?_ ?_ ?_ ?_ ?_ ?_ ?_ ?_ ?_ (Or.inl ⟨?_, ?_⟩) ?_ ?_
    rotate_left 2
    focus (simp only [List.getElem?_toArray, List.getElem?_cons_succ, List.getElem?_cons_zero]; exact rfl)
    iterate 7 focus kernel_rfl
    focus (exact fun _ _ _ h => h)
    focus rfl
    focus (intro wSw hSw; (have hSw := hSw.out); (refine cu_run_neq 37 37 (.tmp 3) (.tmp 4) ?_ _ _ ?_ ?_ false HE.out (by kernel_rfl)) <;> rfl)
    focus assumption
    try simp only [Act.put, List.setIfInBounds_toArray, List.set_cons_zero, List.set_cons_succ]
    refine wpAnyHL_take (i := 3) (oi := ?_) (v := ?_) ?_ ?_ ?_ ?_ ?_ ?_ ?_ ?_ ?_ (Or.inl ⟨?_, ?_⟩) ?_ ?_
    rotate_left 2
    focus (simp only [List.getElem?_toArray, List.getElem?_cons_succ, List.getElem?_cons_zero]; exact rfl)
    iterate 7 focus kernel_rfl
    focus (exact fun _ _ _ h => h)
    focus rfl
    focus ((intro wSw hSw; (have hSw := hSw.out); (try dsimp only at hSw); go_simp) <;> with_reducible rfl)
    focus assumption
    try simp only [Act.put, List.setIfInBounds_toArray, List.set_cons_zero, List.set_cons_succ]
    refine wpAnyHL_take (i := 4) (oi := ?_) (v := ?_) ?_ ?_ ?_ ?_ ?_ ?_ ?_ ?_ ?_ (Or.inl ⟨?_, ?_⟩) ?_ ?_
    rotate_left 2
    focus (simp only [List.getElem?_toArray, List.getElem?_cons_succ, List.getElem?_cons_zero]; exact rfl)
    iterate 7 focus kernel_rfl
    focus (exact fun _ _ _ h => h)
    focus rfl
    focus (intro wSw hSw; (have hSw := hSw.out); (refine cu_run_load 37 (.tmp 1) ?_ p 0 ?_ _ _ (HR.out.keeps hSw) Try.underlying37 rfl (by rw [List.length_map, hl]; exact sz_rnum)) <;> rfl)
    focus assumption
    try simp only [Act.put, List.setIfInBounds_toArray, List.set_cons_zero, List.set_cons_succ]
    refine wpAnyHL_one (i := 5) (o := ?_) (by kernel_rfl) (by kernel_rfl) ?_ ?_
    rotate_left 1
    focus (simp only [List.getElem?_toArray, List.getElem?_cons_succ, List.getElem?_cons_zero]; exact rfl)
    go_wp2_with (go_at_call 27; refine (HN.out _).mono ?_; rintro r W5 ⟨rfl, hk5⟩; have HK5 := Lib.hid (hHeld.out.trans hk5); clear hk5)
    try dsimp only [StepQ]
    refine ⟨?_, fun hHeld => ?_⟩
    focus (exact Lib.hid (HK5.out))
    try simp only [Act.put, List.setIfInBounds_toArray, List.set_cons_zero, List.set_cons_succ]
    refine wpAnyHL_one (i := 6) (o := ?_) (by kernel_rfl) (by kernel_rfl) ?_ ?_
    rotate_left 1
    focus (simp only [List.getElem?_toArray, List.getElem?_cons_succ, List.getElem?_cons_zero]; exact rfl)
    go_wp2_with (go_at_call 25; refine (HLS.out _).mono ?_; rintro r W6 ⟨rfl, hk6⟩; have HK6 := Lib.hid (hHeld.out.trans hk6); clear hk6)
    try dsimp only [StepQ]
    refine ⟨?_, fun hHeld => ?_⟩
    focus (exact Lib.hid (HK6.out))
    try simp only [Act.put, List.setIfInBounds_toArray, List.set_cons_zero, List.set_cons_succ]
    refine wpAnyHL_done (by kernel_rfl) ?_
    try simp only [List.drop_succ_cons, List.drop_zero]
    go_wp2
    go_ret
    exact ⟨by first | rfl | exact ret_bool (by simp), HK.out.trans hHeld.out⟩
end Go.Proofs.Ytajipagpdphejaa
