/- The reference's Pow and Inverse. No condition. -/
import Derived.Test.YtajipagpdphejaaGB8
import Derived.Test.YtajipagpdphejaaGC0
import Derived.Test.YtajipagpdphejaaGB5
namespace Go.Proofs.Ytajipagpdphejaa
set_option linter.unusedVariables false
set_option linter.unusedSimpArgs false
open Go Go.RowKit

theorem RMem5.keeps {w wr w' : World} {p : Nat} {X Y M L : List Int} {Z : List Value} (h : RMem5 w wr p X Y M L Z) (hk : Keeps wr w') : RMem5 w w' p X Y M L Z :=
  ⟨h.1.trans hk, h.2.1.keeps hk, h.2.2.1.keeps hk, h.2.2.2.1.keeps hk, h.2.2.2.2.1.keeps hk, h.2.2.2.2.2.keeps hk⟩
theorem RMem5.put {w wr w' : World} {p : Nat} {X Y M L L' : List Int} {Z : List Value} (h : RMem5 w wr p X Y M L Z) (hp : w.heap.size ≤ p) (hc : Chg (· = p + 1 + 1 + 1 + 1) wr w') (hr : Row w' (p + 1 + 1 + 1 + 1) 0 (L'.map (Value.int .u32))) : RMem5 w w' p X Y M L' Z :=
  ⟨nm_keeps_chg h.1 hc (by omega), h.2.1.chg hc (by omega), h.2.2.1.chg hc (by omega), h.2.2.2.1.chg hc (by omega), h.2.2.2.2.1.chg hc (by omega), hr⟩
set_option maxRecDepth 100000 in
set_option maxHeartbeats 8000000 in
theorem rpow_walk (m x : Int) (M E : List Int) (P : Nat → Int) (bt : Nat → Bool) (hM : M.length = 8) (hE : E.length = 8) (hx : U256 x) (hPU : ∀ j, U256 (P j)) (h0 : P 0 = 1)
    (hS : ∀ i, i < 256 → (bt i = true ∧ P (256 - i) = P (256 - (i + 1)) * P (256 - (i + 1)) % m * x % m ∧ U256 (P (256 - (i + 1)) * P (256 - (i + 1)) % m)) ∨ (bt i = false ∧ P (256 - i) = P (256 - (i + 1)) * P (256 - (i + 1)) % m)) (w : World)
    (hB : ∀ (i : Nat) W, i < 256 → Calls Try.prog 66 #[.agg (E.map (Value.int .u32)).toArray, .int .i64 i] W fun e w' => e = .returned (.bool (bt i)) ∧ Keeps W w')
    (hMul : ∀ a b W, U256 a → U256 b → Calls Try.prog 49 #[.agg ((words8 a).map (Value.int .u32)).toArray, .agg ((words8 b).map (Value.int .u32)).toArray, .agg (M.map (Value.int .u32)).toArray] W fun e w' => e = .returned (.agg ((words8 (a * b % m)).map (Value.int .u32)).toArray) ∧ Keeps W w') :
    Calls Try.prog 67 #[.agg ((words8 x).map (Value.int .u32)).toArray, .agg (E.map (Value.int .u32)).toArray, .agg (M.map (Value.int .u32)).toArray] w fun e' w' => e' = .returned (.agg ((words8 (P 256)).map (Value.int .u32)).toArray) ∧ Keeps w w' := by
  have HMU := Lib.hid hMul; have HB := Lib.hid hB; have HS := Lib.hid hS; have HPU := Lib.hid hPU; have HE := Lib.hid hE; have HXU := Lib.hid hx; have HML := Lib.hid hM
  have hxl := words8_length x
  have HP0 := Lib.hid h0
  generalize hX : words8 x = X at *
  have HX := Lib.hid hX
  have HXL := Lib.hid hxl
  obtain ⟨T, hT⟩ : ∃ T : Nat → List Int, ∀ j, T j = words8 (P j) := ⟨fun j => words8 (P j), fun _ => rfl⟩
  rw [← hT 256]
  have HT := Lib.hid hT
  have HTL := Lib.hid (fun j => show (T j).length = 8 by rw [hT]; exact words8_length _)
  have HT0 := Lib.hid (show T 0 = [1, 0, 0, 0, 0, 0, 0, 0] by rw [hT, h0]; simp [words8, List.range_succ])
  clear hMul hB hS hPU hE hx h0 hX hxl hT hM HP0
  go_enter Try.func67, Try.ntmps67
  go_upto_region 2 with (fail)
  refine wp_rows5 (fun W hk hra hrb hrm hr2 hr3 hs => ?_)
  obtain ⟨p, hp⟩ : ∃ p, p = w.heap.size := ⟨_, rfl⟩
  rw [← hp] at hra hrb hrm hr2 hr3 hs ⊢
  have hkp : w.heap.size ≤ p := by omega
  obtain ⟨Z, hZ, hrz⟩ : ∃ Z : List Value, Z.length = 8 ∧ Row W (p + 1 + 1 + 1) 0 Z := ⟨_, rfl, hr2⟩
  have HM0 := Lib.hid (show RMem5 w W p X E M (T 0) Z from ⟨hk, hra, hrb, hrm, hrz, by rw [HT0.out]; exact hr3⟩)
  clear hp hra hrb hrm hr2 hr3 hrz hk hs HT0
  go_wp2
  go_loopw [8] (fun c wr => ∃ (k : Nat) (z : Int), k ≤ 256 ∧ c = .int .i64 z ∧ Hid (z = (k : Int) - 1) ∧ Hid (RMem5 w wr p X E M (T (256 - k)) Z)) (fun c _ => (intOf c + 1).toNat)
  case atStart => exact ⟨256, 255, by omega, rfl, Lib.hid (by omega), HM0⟩
  case round =>
    obtain ⟨k, z, hk8, rfl, HZ, HMM⟩ := hrel
    have hkc : k = 0 ∨ ∃ i, k = i + 1 := by
      cases k with
      | zero => exact .inl rfl
      | succ i => exact .inr ⟨i, rfl⟩
    rcases hkc with rfl | ⟨i, rfl⟩
    · obtain rfl : z = -1 := by have := HZ.out; omega
      rw [Nat.sub_zero] at HMM
      have hl9 := HTL.out 256
      go_wp2_with (first | ((with_reducible refine gate_load 37 (.tmp 7) ?_); refine wpList_load_at rfl 37 (.tmp 7) rfl _ 0 rfl ((T 256).map (Value.int .u32)) _ HMM.out.2.2.2.2.2 Try.underlying37 rfl (by rw [List.length_map, hl9]; exact sz_rnum) ?_) | ((with_reducible refine gate_store 37 (.tmp 6) (.tmp 25) ?_); refine wpList_store_row rfl 37 (.tmp 6) (.tmp 25) rfl (p + 1 + 1 + 1) 0 rfl Z ((T 256).map (Value.int .u32)) rfl HMM.out.2.2.2.2.1 (by rw [List.length_map, hl9, hZ]) (by rw [List.length_map, hl9]; exact sz_rnum) (int_oneCell _) ?_; intro w9 hr9 hc9; have H9 := Lib.hid hr9; have HC9 := Lib.hid hc9; clear hr9 hc9))
      exact bodyPost_ret (v := .agg ((T 256).map (Value.int .u32)).toArray) (results_cell_at (p := 6) (ty := 37) rfl _ _ (p + 1 + 1 + 1) 0 _ _ rfl H9.out Try.underlying37 rfl (by rw [List.length_map, hl9]; exact sz_rnum)) rfl ⟨rfl, nm_keeps_chg HMM.out.1 HC9.out (by omega)⟩
    · obtain rfl : z = (i : Int) := by have := HZ.out; omega
      have hi : i < 256 := by omega
      have hst := HS.out i hi
      have HBT := Lib.hid (fun W => HB.out i W hi)
      have hpu := HPU.out (256 - (i + 1))
      have HT1 := Lib.hid (HT.out (256 - (i + 1)))
      have HT2 := Lib.hid (HT.out (256 - i))
      have ht1 := HTL.out (256 - (i + 1))
      have ht2 := HTL.out (256 - i)
      generalize bt i = bb at *
      generalize P (256 - (i + 1)) = a at *
      generalize P (256 - i) = b at *
      generalize T (256 - (i + 1)) = TA at *
      generalize hTB : T (256 - i) = TB at *
      have HTB := Lib.hid hTB
      clear hTB
      have HM1 := Lib.hid (fun W => HMU.out a a W hpu hpu)
      rw [← HT1.out] at HM1
      have hsl := words8_length (a * a % m)
      rcases hst with ⟨rfl, hst, hu2⟩ | ⟨rfl, hst⟩
      · have HM2 := Lib.hid (fun W => HMU.out (a * a % m) x W hu2 HXU.out)
        rw [← hst, ← HT2.out, HX.out] at HM2
        generalize words8 (a * a % m) = SQ at *
        clear hst hu2
        go_upto_region 6 with (first | ((with_reducible refine gate_load 37 (.tmp 7) ?_); refine wpList_load_at rfl 37 (.tmp 7) rfl _ 0 rfl (TA.map (Value.int .u32)) _ HMM.out.2.2.2.2.2 Try.underlying37 rfl (by rw [List.length_map, ht1]; exact sz_rnum) ?_) | ((with_reducible refine gate_load 37 (.tmp 5) ?_); refine wpList_load_at rfl 37 (.tmp 5) rfl _ 0 rfl (M.map (Value.int .u32)) _ HMM.out.2.2.2.1 Try.underlying37 rfl (by rw [List.length_map, HML.out]; exact sz_rnum) ?_) | (go_at_call 49; refine (HM1.out _).mono ?_; rintro e W2 ⟨rfl, hk2⟩; have HK2 := Lib.hid (HMM.out.keeps hk2); clear hk2) | ((with_reducible refine gate_store 37 (.tmp 7) (.tmp 17) ?_); refine wpList_store_row rfl 37 (.tmp 7) (.tmp 17) rfl (p + 1 + 1 + 1 + 1) 0 rfl (TA.map (Value.int .u32)) (SQ.map (Value.int .u32)) rfl HK2.out.2.2.2.2.2 (by rw [List.length_map, List.length_map, ht1, hsl]) (by rw [List.length_map, hsl]; exact sz_rnum) (int_oneCell _) ?_; intro W3 hr9 hc9; have HK3 := Lib.hid (HK2.out.put hkp hc9 hr9); clear hr9 hc9))
        go_upto_region 7 with (first | ((with_reducible refine gate_load 37 (.tmp 4) ?_); refine wpList_load_at rfl 37 (.tmp 4) rfl _ 0 rfl (E.map (Value.int .u32)) _ HK3.out.2.2.1 Try.underlying37 rfl (by rw [List.length_map, HE.out]; exact sz_rnum) ?_) | (go_at_call 66; refine (HBT.out _).mono ?_; rintro e W4 ⟨rfl, hk2⟩; have HK4 := Lib.hid (HK3.out.keeps hk2); clear hk2))
        go_wp2_with (first | ((with_reducible refine gate_load 37 (.tmp 7) ?_); refine wpList_load_at rfl 37 (.tmp 7) rfl _ 0 rfl (SQ.map (Value.int .u32)) _ HK4.out.2.2.2.2.2 Try.underlying37 rfl (by rw [List.length_map, hsl]; exact sz_rnum) ?_) | ((with_reducible refine gate_load 37 (.tmp 3) ?_); refine wpList_load_at rfl 37 (.tmp 3) rfl _ 0 rfl (X.map (Value.int .u32)) _ HK4.out.2.1 Try.underlying37 rfl (by rw [List.length_map, HXL.out]; exact sz_rnum) ?_) | ((with_reducible refine gate_load 37 (.tmp 5) ?_); refine wpList_load_at rfl 37 (.tmp 5) rfl _ 0 rfl (M.map (Value.int .u32)) _ HK4.out.2.2.2.1 Try.underlying37 rfl (by rw [List.length_map, HML.out]; exact sz_rnum) ?_) | (go_at_call 49; refine (HM2.out _).mono ?_; rintro e W5 ⟨rfl, hk2⟩; have HK5 := Lib.hid (HK4.out.keeps hk2); clear hk2) | ((with_reducible refine gate_store 37 (.tmp 7) (.tmp 24) ?_); refine wpList_store_row rfl 37 (.tmp 7) (.tmp 24) rfl (p + 1 + 1 + 1 + 1) 0 rfl (SQ.map (Value.int .u32)) (TB.map (Value.int .u32)) rfl HK5.out.2.2.2.2.2 (by rw [List.length_map, List.length_map, ht2, hsl]) (by rw [List.length_map, ht2]; exact sz_rnum) (int_oneCell _) ?_; intro W6 hr9 hc9; have HK6 := Lib.hid (HK5.out.put hkp hc9 hr9); clear hr9 hc9))
        go_roundw
        case rel => exact ⟨i, (i : Int) - 1, by omega, by first | rfl | go_num, Lib.hid rfl, by rw [HTB.out]; exact HK6⟩
        case measure => simp [intOf] <;> omega
      · rw [← hst, ← HT2.out] at HM1
        clear hst
        go_upto_region 6 with (first | ((with_reducible refine gate_load 37 (.tmp 7) ?_); refine wpList_load_at rfl 37 (.tmp 7) rfl _ 0 rfl (TA.map (Value.int .u32)) _ HMM.out.2.2.2.2.2 Try.underlying37 rfl (by rw [List.length_map, ht1]; exact sz_rnum) ?_) | ((with_reducible refine gate_load 37 (.tmp 5) ?_); refine wpList_load_at rfl 37 (.tmp 5) rfl _ 0 rfl (M.map (Value.int .u32)) _ HMM.out.2.2.2.1 Try.underlying37 rfl (by rw [List.length_map, HML.out]; exact sz_rnum) ?_) | (go_at_call 49; refine (HM1.out _).mono ?_; rintro e W2 ⟨rfl, hk2⟩; have HK2 := Lib.hid (HMM.out.keeps hk2); clear hk2) | ((with_reducible refine gate_store 37 (.tmp 7) (.tmp 17) ?_); refine wpList_store_row rfl 37 (.tmp 7) (.tmp 17) rfl (p + 1 + 1 + 1 + 1) 0 rfl (TA.map (Value.int .u32)) (TB.map (Value.int .u32)) rfl HK2.out.2.2.2.2.2 (by rw [List.length_map, List.length_map, ht1, ht2]) (by rw [List.length_map, ht2]; exact sz_rnum) (int_oneCell _) ?_; intro W3 hr9 hc9; have HK3 := Lib.hid (HK2.out.put hkp hc9 hr9); clear hr9 hc9))
        go_wp2_with (first | ((with_reducible refine gate_load 37 (.tmp 4) ?_); refine wpList_load_at rfl 37 (.tmp 4) rfl _ 0 rfl (E.map (Value.int .u32)) _ HK3.out.2.2.1 Try.underlying37 rfl (by rw [List.length_map, HE.out]; exact sz_rnum) ?_) | (go_at_call 66; refine (HBT.out _).mono ?_; rintro e W4 ⟨rfl, hk2⟩; have HK4 := Lib.hid (HK3.out.keeps hk2); clear hk2))
        go_roundw
        case rel => exact ⟨i, (i : Int) - 1, by omega, by first | rfl | go_num, Lib.hid rfl, by rw [HTB.out]; exact HK4⟩
        case measure => simp [intOf] <;> omega
theorem rpow_any (m : Nat) (hm : RMod (m : Int)) (x e : Nat) (hx : x < 2 ^ 256) (he : e < 2 ^ 256) (w : World) :
    Calls Try.prog 67 #[.agg ((words8 (x : Int)).map (Value.int .u32)).toArray, .agg ((words8 (e : Int)).map (Value.int .u32)).toArray, .agg ((words8 (m : Int)).map (Value.int .u32)).toArray] w fun e' w' => e' = .returned (.agg ((words8 ((x ^ e % m : Nat) : Int)).map (Value.int .u32)).toArray) ∧ Keeps w w' := by
  have hm2 : m < 2 ^ 256 := by have := hm.u.2; rw [two256]; omega
  have hm1 : 1 < m := by have := hm.two; omega
  have hfin := pwN_eq (x := x) hm1 he 256 (Nat.le_refl _)
  rw [Nat.sub_self, Nat.pow_zero, Nat.div_one] at hfin
  rw [← hfin]
  refine rpow_walk (m : Int) (x : Int) (words8 (m : Int)) (words8 (e : Int)) (fun j => ((pwN m x e j : Nat) : Int)) (fun i => decide ((words8 (e : Int)).getD (i / 32) 0 / 2 ^ (i % 32) % 2 = 1)) (words8_length _) (words8_length _) (u256_nat hx) (fun j => u256_nat (Nat.lt_trans (pwN_lt hm1 j) hm2)) rfl (fun i hi => ?_) w
    (fun i W hi => rbit_any _ (words8_length _) (words8_range _) i hi W) (fun a b W ha hb => rmul_any (m : Int) a b hm ha hb W)
  rw [words8_bit e i hi]
  have e1 : 256 - i = 256 - (i + 1) + 1 := by omega
  have e2 : 255 - (256 - (i + 1)) = i := by omega
  have hst : pwN m x e (256 - i) = if e / 2 ^ i % 2 = 1 then pwN m x e (256 - (i + 1)) * pwN m x e (256 - (i + 1)) % m * x % m else pwN m x e (256 - (i + 1)) * pwN m x e (256 - (i + 1)) % m := by
    conv => lhs; rw [e1, pwN, e2]
  rcases Nat.mod_two_eq_zero_or_one (e / 2 ^ i) with h | h
  · refine .inr ⟨by rw [h]; rfl, ?_⟩
    rw [hst, h, if_neg (by decide)]
    rw [Int.natCast_emod, Int.natCast_mul]
  · refine .inl ⟨by rw [h]; rfl, ?_, ?_⟩
    · rw [hst, h, if_pos rfl, Int.natCast_emod, Int.natCast_mul, Int.natCast_emod, Int.natCast_mul]
    · rw [← Int.natCast_mul, ← Int.natCast_emod]
      exact u256_nat (Nat.lt_trans (Nat.mod_lt _ (by omega)) hm2)
theorem built_rtwo : Try.prog.built 37 [(0, .int .u32 2)] = some ((words8 2).map (Value.int .u32)).toArray := by kernel_rfl
set_option maxRecDepth 100000 in
set_option maxHeartbeats 1000000 in
theorem rinverse_any (m : Nat) (hm : RMod (m : Int)) (x : Nat) (hx : x < 2 ^ 256) (w : World) :
    Calls Try.prog 47 #[.agg ((words8 (x : Int)).map (Value.int .u32)).toArray, .agg ((words8 (m : Int)).map (Value.int .u32)).toArray] w fun e w' => e = .returned (.agg ((words8 ((x ^ (m - 2) % m : Nat) : Int)).map (Value.int .u32)).toArray) ∧ Keeps w w' := by
  have hm2 : m < 2 ^ 256 := by have := hm.u.2; rw [two256]; omega
  have hm1 : 2 < m := by have := hm.two; omega
  have HSUB := Lib.hid (rminus_any (m : Int) 2 hm.u ⟨by decide, by decide⟩)
  rw [show (m : Int) - 2 = ((m - 2 : Nat) : Int) by omega] at HSUB
  have HPOW := Lib.hid (rpow_any m hm x (m - 2) hx (by omega))
  have HB2 := Lib.hid built_rtwo
  have hl := words8_length (x : Int)
  have hml := words8_length (m : Int)
  have hrl := words8_length ((x ^ (m - 2) % m : Nat) : Int)
  generalize words8 ((x ^ (m - 2) % m : Nat) : Int) = RES at *
  generalize words8 ((m - 2 : Nat) : Int) = R at *
  generalize words8 (x : Int) = X at *
  generalize words8 (m : Int) = MM at *
  generalize words8 2 = TW at *
  clear hx hm hm1 hm2
  go_enter Try.func47, Try.ntmps47
  go_upto_region 1 with (fail)
  refine wp_rows3 (fun W hk hra hrb hr2 hs => ?_)
  obtain ⟨p, hp⟩ : ∃ p, p = w.heap.size := ⟨_, rfl⟩
  rw [← hp] at hra hrb hr2 hs ⊢
  have hkp : w.heap.size ≤ p := by omega
  obtain ⟨Z, hZ, hrz⟩ : ∃ Z : List Value, Z.length = 8 ∧ Row W (p + 1 + 1) 0 Z := ⟨_, rfl, hr2⟩
  have HRA := Lib.hid (show Row W p 0 (X.map (Value.int .u32)) from hra); have HRB := Lib.hid (show Row W (p + 1) 0 (MM.map (Value.int .u32)) from hrb); have HRZ := Lib.hid hrz; have HK := Lib.hid hk
  clear hp hra hrb hr2 hrz hk hs
  refine wp_region_keep 6 [] [0, 1, 2, 3, 4, 5] (fun _ => []) (by kernel_rfl) (by kernel_rfl) (by intro i hi; cases hi) ?_
  refine keep_pure (o := ?_) (v := ?_) ?_ ?_ ?_ ?_
  rotate_left 2
  focus (simp only [kG]; exact rfl)
  focus rfl
  focus (intro wS hS; (refine cu_run_load 37 (.tmp 2) ?_ p 0 ?_ (X.map (Value.int .u32)) _ (HRA.out.keeps hS) Try.underlying37 rfl (by rw [List.length_map, hl]; exact sz_rnum)) <;> rfl)
  try simp only [kP]
  refine keep_pure (o := ?_) (v := ?_) ?_ ?_ ?_ ?_
  rotate_left 2
  focus (simp only [kG]; exact rfl)
  focus rfl
  focus (intro wS hS; (refine cu_run_load 37 (.tmp 3) ?_ (p + 1) 0 ?_ (MM.map (Value.int .u32)) _ (HRB.out.keeps hS) Try.underlying37 rfl (by rw [List.length_map, hml]; exact sz_rnum)) <;> rfl)
  try simp only [kP]
  refine keep_pure (o := ?_) (v := ?_) ?_ ?_ ?_ ?_
  rotate_left 2
  focus (simp only [kG]; exact rfl)
  focus rfl
  focus (intro wS hS; (refine cu_run_build 37 [(0, .const (.int .u32 2))] ?_ _ ?_ _ HB2.out) <;> rfl)
  try simp only [kP]
  refine keep_call (o := ?_) (f := ?_) (args := ?_) (v := ?_) ?_ ?_ ?_ ?_ ?_
  rotate_left 4
  focus (simp only [kG]; exact rfl)
  focus rfl
  focus (intro wS; go_simp; refine ⟨?_, ?_⟩ <;> with_reducible rfl)
  focus (intro wS hS; exact HSUB.out wS)
  try simp only [kP]
  refine keep_pure (o := ?_) (v := ?_) ?_ ?_ ?_ ?_
  rotate_left 2
  focus (simp only [kG]; exact rfl)
  focus rfl
  focus (intro wS hS; (refine cu_run_load 37 (.tmp 3) ?_ (p + 1) 0 ?_ (MM.map (Value.int .u32)) _ (HRB.out.keeps hS) Try.underlying37 rfl (by rw [List.length_map, hml]; exact sz_rnum)) <;> rfl)
  try simp only [kP]
  refine keep_call (o := ?_) (f := ?_) (args := ?_) (v := ?_) ?_ ?_ ?_ ?_ ?_
  rotate_left 4
  focus (simp only [kG]; exact rfl)
  focus rfl
  focus (intro wS; go_simp; refine ⟨?_, ?_⟩ <;> with_reducible rfl)
  focus (intro wS hS; exact HPOW.out wS)
  try simp only [kP]
  refine keep_nil ?_
  intro GG V2 hk1 hG
  clear hG
  simp only [putsA, dstAt, Act.put, ptrV, List.drop_succ_cons, List.drop_zero, List.getElem?_toArray, List.getElem?_cons_succ, List.getElem?_cons_zero, Option.bind_some, List.setIfInBounds_toArray, List.set_cons_zero, List.set_cons_succ]
  have HRZ := Lib.hid (HRZ.out.keeps hk1)
  have HK := Lib.hid (HK.out.trans hk1)
  clear hk1
  go_wp2_with ((with_reducible refine gate_store 37 (.tmp 4) (.tmp 10) ?_); refine wpList_store_row rfl 37 (.tmp 4) (.tmp 10) rfl (p + 1 + 1) 0 rfl Z (RES.map (Value.int .u32)) rfl HRZ.out (by rw [List.length_map, hrl, hZ]) (by rw [List.length_map, hrl]; exact sz_rnum) (int_oneCell _) ?_; intro w9 hr9 hc9; have H9 := Lib.hid hr9; have HC9 := Lib.hid hc9; clear hr9 hc9)
  exact bodyPost_ret (v := .agg (RES.map (Value.int .u32)).toArray) (results_cell_at (p := 4) (ty := 37) rfl _ _ (p + 1 + 1) 0 _ _ rfl H9.out Try.underlying37 rfl (by rw [List.length_map, hrl]; exact sz_rnum)) rfl ⟨rfl, nm_keeps_chg HK.out HC9.out (by omega)⟩
end Go.Proofs.Ytajipagpdphejaa
