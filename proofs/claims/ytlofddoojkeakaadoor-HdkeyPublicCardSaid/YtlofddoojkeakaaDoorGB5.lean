/- curve's numbers: halved, and as bytes. No condition. | curve's field: products and powers modulo m. No condition. | curve's field: powers, and the inverse. No condition. | curve's field: the inverse by Fermat. No condition. | The reference's Pow and Inverse. No condition. -/
import Derived.Test.YtlofddoojkeakaaDoorGB0
import Derived.Test.YtlofddoojkeakaaDoorGB4
import Derived.Test.YtlofddoojkeakaaDoorGB2
namespace Go.Proofs.YtlofddoojkeakaaDoor
set_option linter.unusedVariables false
set_option linter.unusedSimpArgs false
open Go Go.RowKit

/-- a word of the half: the word's half, and the lowest bit of the next one -/
theorem half_step {x : Int} (h : U256 x) (i : Nat) (hi : i < 4) : (words x).getD i 0 / 2 + (if i < 3 then (words x).getD (i + 1) 0 else 0) * 9223372036854775808 % 18446744073709551616 = (words (x / 2)).getD i 0 := by
  unfold U256 at h
  have : i = 0 ∨ i = 1 ∨ i = 2 ∨ i = 3 := by omega
  rcases this with rfl | rfl | rfl | rfl <;> simp [words] <;> omega
theorem mixW_getD' (r u : Int) (i j : Nat) (h : i ≤ j) (hj : j < 4) : (mixW r u i).getD j 0 = (words u).getD j 0 := by
  have h1 : ((words r).take i).length = i := by rw [List.length_take, words_length]; omega
  unfold mixW
  rw [List.getD, List.getElem?_append_right (by omega), h1, List.getElem?_drop, show i + (j - i) = j by omega]; rfl
set_option maxRecDepth 100000 in
set_option maxHeartbeats 4000000 in
theorem half_any (x : Int) (hx : U256 x) (w : World) :
    Calls Tryd.prog 79 #[.agg ((words x).map (Value.int .u64)).toArray, .int .u64 0] w fun e w' => e = .returned (.agg ((words (x / 2)).map (Value.int .u64)).toArray) ∧ Keeps w w' := by
  have hset := mixW_set (x / 2) x
  have hlen := mixW_length (x / 2) x
  have hzero := mixW_zero (x / 2) x
  have hfull := mixW_full (x / 2) x
  have hgd := mixW_getD' (x / 2) x
  have hstep := half_step hx
  have hr1 := words_range x
  have hxl := words_length x
  have hrl := words_length (x / 2)
  generalize mixW (x / 2) x = M at *
  generalize words x = X at *
  generalize words (x / 2) = R at *
  have HSET := Lib.hid hset; have HLEN := Lib.hid hlen; have HZERO := Lib.hid hzero; have HFULL := Lib.hid hfull; have HGD := Lib.hid hgd; have HSTEP := Lib.hid hstep; have HR1 := Lib.hid hr1; have HRL := Lib.hid hrl
  clear hset hlen hzero hfull hgd hstep hr1 hxl hrl hx
  go_enter Tryd.func79, Tryd.ntmps79
  go_upto_region 1 with (fail)
  refine cu_rows2 (fun W hk hra hrb hs => ?_)
  obtain ⟨p, hp⟩ : ∃ p, p = w.heap.size := ⟨_, rfl⟩
  rw [← hp] at hra hrb hs ⊢
  have hkp : w.heap.size ≤ p := by omega
  obtain ⟨Z, hZ, hrz⟩ : ∃ Z : List Value, Z.length = 4 ∧ Row W (p + 1) 0 Z := ⟨_, rfl, hrb⟩
  have HRM := Lib.hid (show Row W p 0 ((M 0).map (Value.int .u64)) by rw [HZERO.out]; exact hra); have HRZ := Lib.hid hrz; have HK := Lib.hid hk
  clear hp hra hrb hrz hk hs
  go_wp2
  go_loopw [5, 6, 7] (fun _ _ c wr => ∃ i : Nat, i ≤ 4 ∧ c = .int .i64 i ∧ Keeps w wr ∧ Row wr p 0 ((M i).map (Value.int .u64)) ∧ Row wr (p + 1) 0 Z) (fun _ _ c _ => (4 - intOf c).toNat)
  case atStart => exact ⟨0, by omega, rfl, HK.out, HRM.out, HRZ.out⟩
  case round =>
    obtain ⟨i, hi, rfl, hk, hrm, hrz⟩ := hrel
    by_cases hlt : i < 4
    · have c1 := hrm.int0 i (by rw [HLEN.out i hi]; exact hlt)
      have f3 := hrm.free0 i (by rw [List.length_map, HLEN.out i hi]; exact hlt)
      rw [HGD.out i i (by omega) hlt] at c1
      have s1 := HSTEP.out i hlt
      obtain ⟨x0, x1⟩ := HR1.out i hlt
      have hset := hrm.setInt0 i (by rw [HLEN.out i hi]; exact hlt) (R.getD i 0)
      rw [HSET.out i hlt] at hset
      by_cases h3 : i < 3
      · have c2 := hrm.int0 (i + 1) (by rw [HLEN.out i hi]; omega)
        rw [HGD.out i (i + 1) (by omega) (by omega)] at c2
        obtain ⟨y0, y1⟩ := HR1.out (i + 1) (by omega)
        rw [if_pos h3] at s1
        generalize X.getD i 0 = x at *
        generalize X.getD (i + 1) 0 = y at *
        have HOR := Lib.hid (show bits .or .u64 (x / 2) (IntKind.u64.wrap (y * 9223372036854775808)) = R.getD i 0 by rw [← s1, IntKind.wrap_u64, bits_or_comm, nm_u64_join 63 _ _ (by omega) (by omega) (by omega) (by omega) (by omega) (by omega)]; omega)
        have HS := Lib.hid hset; have H2 := Lib.hid hrz; have HK2 := Lib.hid hk
        clear hset hrz hrm hk s1
        go_wp2
        go_roundw
        case rel => exact ⟨i + 1, by omega, by go_num, keeps_set HK2.out (by omega) _, by rw [HOR.out]; exact HS.out, H2.out.other (by simp) _⟩
        case measure => simp [intOf]; omega
      · rw [if_neg h3] at s1
        generalize X.getD i 0 = x at *
        have HOR := Lib.hid (show bits .or .u64 (x / 2) (0 * 9223372036854775808 % 18446744073709551616) = R.getD i 0 by rw [← s1, bits_or_comm, nm_u64_join 63 _ _ (by omega) (by omega) (by omega) (by omega) (by omega) (by omega)]; omega)
        have HS := Lib.hid hset; have H2 := Lib.hid hrz; have HK2 := Lib.hid hk
        clear hset hrz hrm hk s1
        go_wp2
        go_roundw
        case rel => exact ⟨i + 1, by omega, by go_num, keeps_set HK2.out (by omega) _, by first | (rw [HOR.out]; exact HS.out) | (have := HOR.out; simp only [Int.zero_mul, Int.zero_emod] at this; rw [this]; exact HS.out), H2.out.other (by simp) _⟩
        case measure => simp [intOf]; omega
    · obtain rfl : i = 4 := by omega
      rw [HFULL.out] at hrm
      have H2 := Lib.hid hrz; have H3 := Lib.hid hrm; have HK2 := Lib.hid hk
      clear hrz hrm hk
      have hl9 := HRL.out
      go_wp2_with (first | (refine wpList_load_at rfl 70 (.tmp 2) rfl _ 0 rfl (R.map (Value.int .u64)) _ H3.out Tryd.underlying70 rfl (by rw [List.length_map, hl9]; exact sz_cnum) ?_) | (refine wpList_store_row rfl 70 (.tmp 4) (.tmp 27) rfl (p + 1) 0 rfl Z (R.map (Value.int .u64)) rfl H2.out (by rw [List.length_map, hl9, hZ]) (by rw [List.length_map, hl9]; exact sz_cnum) (int_oneCell _) ?_; intro w9 hr9 hc9; have H9 := Lib.hid hr9; have HC9 := Lib.hid hc9; clear hr9 hc9))
      exact bodyPost_ret (v := .agg (R.map (Value.int .u64)).toArray) (results_cell_at (p := 4) (ty := 70) rfl _ _ (p + 1) 0 _ _ rfl H9.out Tryd.underlying70 rfl (by rw [List.length_map, hl9]; exact sz_cnum)) rfl ⟨rfl, nm_keeps_chg HK2.out HC9.out (by omega)⟩
set_option maxRecDepth 100000 in
set_option maxHeartbeats 4000000 in
theorem cbytes_any (v : Int) (w : World) :
    Calls Tryd.prog 39 #[.agg ((words v).map (Value.int .u64)).toArray] w fun e w' => e = .returned (.agg ((toB 32 v).map (Value.int .u8)).toArray) ∧ Keeps w w' := by
  have htl := toB_length 32 v
  have HBY := Lib.hid (words_wbyte v)
  have HRG := Lib.hid (words_range v)
  have hwl := words_length v
  generalize words v = L at *
  generalize toB 32 v = RR at *
  go_enter Tryd.func39, Tryd.ntmps39
  go_upto_region 2 with (fail)
  refine wp_rows3 (fun W hk hra hr2 hr3 hs => ?_)
  obtain ⟨p, hp⟩ : ∃ p, p = w.heap.size := ⟨_, rfl⟩
  rw [← hp] at hra hr2 hr3 hs ⊢
  have hkp : w.heap.size ≤ p := by omega
  obtain ⟨Z, hZ, hrz⟩ : ∃ Z : List Value, Z.length = 32 ∧ Row W (p + 1) 0 Z := ⟨_, rfl, hr2⟩
  have HRA := Lib.hid (show Row W p 0 (L.map (Value.int .u64)) from hra); have HR2 := Lib.hid hrz
  have HR3 := Lib.hid (show Row W (p + 1 + 1) 0 ((upto0 RR 32 0).map (Value.int .u8)) by rw [upto0_zero]; exact hr3)
  have HK := Lib.hid hk
  clear hp hra hr2 hrz hr3 hk
  go_wp2
  go_loopw [4, 5] (fun _ c wr => ∃ i : Nat, i ≤ 32 ∧ c = .int .i64 i ∧ Keeps w wr ∧ Row wr p 0 (L.map (Value.int .u64)) ∧ Row wr (p + 1) 0 Z ∧ Row wr (p + 1 + 1) 0 ((upto0 RR 32 i).map (Value.int .u8))) (fun _ c _ => (32 - intOf c).toNat)
  case atStart => exact ⟨0, by omega, rfl, HK.out, HRA.out, HR2.out, HR3.out⟩
  case round =>
    obtain ⟨i, hi, rfl, hk, hra, hr2, hr3⟩ := hrel
    by_cases hlt : i < 32
    · have c2 := hra.int0 (3 - i / 8) (by omega)
      have c3 := hr3.int0 i (by rw [upto0_length _ _ _ htl hi]; exact hlt)
      have f3 := hr3.free0 i (by rw [List.length_map, upto0_length _ _ _ htl hi]; exact hlt)
      have hs := hr3.setInt0 i (by rw [upto0_length _ _ _ htl hi]; exact hlt) (RR.getD i 0)
      rw [upto0_set _ _ _ htl hlt] at hs
      obtain ⟨x0, x1⟩ := HRG.out (3 - i / 8) (by omega)
      have HB := Lib.hid (HBY.out i hlt)
      generalize (upto0 RR 32 i).getD i 0 = old at *
      generalize L.getD (3 - i / 8) 0 = x at *
      have HS := Lib.hid hs; have H1 := Lib.hid hra; have H2 := Lib.hid hr2; have HK2 := Lib.hid hk
      clear hs hra hr2 hr3 hk
      go_wp2
      go_roundw
      case rel => exact ⟨i + 1, by omega, by go_num, keeps_set HK2.out (by omega) _, H1.out.other (by simp; omega) _, H2.out.other (by simp) _, by rw [← HB.out] at HS; exact HS.out⟩
      case measure => simp [intOf]; omega
    · obtain rfl : i = 32 := by omega
      rw [upto0_full _ _ htl] at hr3
      have H2 := Lib.hid hr2; have H3 := Lib.hid hr3; have HK2 := Lib.hid hk
      clear hra hr2 hr3 hk
      go_wp2_with (first | (refine wpList_load_at rfl 24 (.tmp 3) rfl _ 0 rfl (RR.map (Value.int .u8)) _ H3.out Tryd.underlying24 rfl (by rw [List.length_map, htl]; exact sz_b32') ?_) | (refine wpList_store_row rfl 24 (.tmp 2) (.tmp 22) rfl (p + 1) 0 rfl Z (RR.map (Value.int .u8)) rfl H2.out (by rw [List.length_map, htl, hZ]) (by rw [List.length_map, htl]; exact sz_b32') (int_oneCell _) ?_; intro w9 hr9 hc9; have H9 := Lib.hid hr9; have HC9 := Lib.hid hc9; clear hr9 hc9))
      exact bodyPost_ret (v := .agg (RR.map (Value.int .u8)).toArray) (results_cell_at (p := 2) (ty := 24) rfl _ _ (p + 1) 0 _ _ rfl H9.out Tryd.underlying24 rfl (by rw [List.length_map, htl]; exact sz_b32')) rfl ⟨rfl, nm_keeps_chg HK2.out HC9.out (by omega)⟩
theorem mul_any (g off : Nat) (m : Int) (F : List Int) (hF : Fld m F) (x y : Int) (hx : U256 x) (hy : U256 y) (w : World) (hr : Row w g off (F.map (Value.int .u64))) :
    Calls Tryd.prog 67 #[.pointer (some ⟨g, off, none⟩), .agg ((words x).map (Value.int .u64)).toArray, .agg ((words y).map (Value.int .u64)).toArray] w fun e w' => e = .returned (.agg ((words (x * y % m)).map (Value.int .u64)).toArray) ∧ Keeps w w' :=
  mulw_any _ x y (words (x * y % m)) rfl hx hy w (fun L W hl hd hv hk => by
    have := fold_any g off m F hF L hl hd W (hr.keeps hk)
    rwa [hv] at this)
/-- a power, bit by bit from the top -/
def pwN (m x e : Nat) : Nat → Nat
  | 0 => 1
  | j + 1 => if e / 2 ^ (255 - j) % 2 = 1 then pwN m x e j * pwN m x e j % m * x % m else pwN m x e j * pwN m x e j % m
theorem pwN_eq {m x e : Nat} (hm : 1 < m) (he : e < 2 ^ 256) : ∀ j, j ≤ 256 → pwN m x e j = x ^ (e / 2 ^ (256 - j)) % m
  | 0, _ => by rw [Nat.sub_zero, Nat.div_eq_of_lt he, Nat.pow_zero, Nat.mod_eq_of_lt hm]; rfl
  | j + 1, hj => by
    have ih := pwN_eq (x := x) hm he j (by omega)
    have e1 : e / 2 ^ (256 - j) = e / 2 ^ (256 - (j + 1)) / 2 := by
      rw [Nat.div_div_eq_div_mul, ← Nat.pow_succ, show (256 - (j + 1)).succ = 256 - j by omega]
    rw [show 256 - (j + 1) = 255 - j by omega] at e1 ⊢
    unfold pwN
    rw [ih, e1]
    generalize e / 2 ^ (255 - j) = k
    have hk := Nat.div_add_mod k 2
    rcases Nat.mod_two_eq_zero_or_one k with h | h
    · rw [h, if_neg (by decide), ← Nat.mul_mod, ← Nat.pow_add, show k / 2 + k / 2 = k by omega]
    · rw [h, if_pos rfl, ← Nat.mul_mod, ← Nat.pow_add, Nat.mod_mul_mod, ← Nat.pow_succ, Nat.succ_eq_add_one, show k / 2 + k / 2 + 1 = k by omega]
theorem pwN_lt {m x e : Nat} (hm : 1 < m) (j : Nat) : pwN m x e j < m := by
  cases j with
  | zero => exact hm
  | succ j => unfold pwN; split <;> exact Nat.mod_lt _ (by omega)
theorem words_bit (e : Nat) (i : Nat) (hi : i < 256) : (words (e : Int)).getD (i / 64) 0 / 2 ^ (i % 64) % 2 = ((e / 2 ^ i % 2 : Nat) : Int) := by
  rw [words_getD' _ _ (by omega)]
  have h1 : ((18446744073709551616 : Int) ^ (i / 64)) = ((2 ^ (64 * (i / 64)) : Nat) : Int) := by
    rw [show (18446744073709551616 : Int) = ((2 ^ 64 : Nat) : Int) by decide, ← Int.natCast_pow, ← Nat.pow_mul]
  have h2 : ((2 : Int) ^ (i % 64)) = ((2 ^ (i % 64) : Nat) : Int) := by rw [Int.natCast_pow]; rfl
  have h3 : (18446744073709551616 : Int) = ((2 ^ 64 : Nat) : Int) := by decide
  rw [h1, h2, h3]
  norm_cast
  have h4 : i = 64 * (i / 64) + i % 64 := by omega
  conv => rhs; rw [h4, Nat.pow_add, ← Nat.div_div_eq_div_mul]
  generalize e / 2 ^ (64 * (i / 64)) = q
  have h5 : i % 64 < 64 := Nat.mod_lt _ (by decide)
  generalize i % 64 = r at *
  rw [show (2 ^ 64 : Nat) = 2 ^ r * 2 ^ (64 - r) by rw [← Nat.pow_add, show r + (64 - r) = 64 by omega], Nat.mod_mul_right_div_self, show 64 - r = 1 + (63 - r) by omega, Nat.pow_add, Nat.pow_one, Nat.mod_mul_right_mod]
theorem two256 : (2 : Nat) ^ 256 = 115792089237316195423570985008687907853269984665640564039457584007913129639936 := by decide
theorem u256_nat {x : Nat} (h : x < 2 ^ 256) : U256 (x : Int) := ⟨by omega, by rw [two256] at h; omega⟩
theorem built_one : Tryd.prog.built 70 [(0, .int .u64 1)] = some ((words 1).map (Value.int .u64)).toArray := by kernel_rfl
theorem built_two : Tryd.prog.built 70 [(0, .int .u64 2)] = some ((words 2).map (Value.int .u64)).toArray := by kernel_rfl
def PowMem (w wr : World) (p : Nat) (X E L : List Int) (Z : List Value) : Prop := Keeps w wr ∧ Row wr p 0 (X.map (Value.int .u64)) ∧ Row wr (p + 1) 0 (E.map (Value.int .u64)) ∧ Row wr (p + 1 + 1) 0 Z ∧ Row wr (p + 1 + 1 + 1) 0 (L.map (Value.int .u64))
set_option maxRecDepth 100000 in
set_option maxHeartbeats 8000000 in
theorem pow_walk (fv : Value) (m x : Int) (E : List Int) (P : Nat → Int) (bt : Nat → Bool) (hx : U256 x) (hE : E.length = 4) (hER : ∀ i, i < 4 → 0 ≤ E.getD i 0 ∧ E.getD i 0 < 18446744073709551616) (h0 : P 0 = 1) (hPU : ∀ j, U256 (P j))
    (hS : ∀ i, i < 256 → (E.getD (i / 64) 0 / 2 ^ (i % 64) % 2 = 1 ∧ P (256 - i) = P (256 - (i + 1)) * P (256 - (i + 1)) % m * x % m ∧ U256 (P (256 - (i + 1)) * P (256 - (i + 1)) % m)) ∨ (E.getD (i / 64) 0 / 2 ^ (i % 64) % 2 = 0 ∧ P (256 - i) = P (256 - (i + 1)) * P (256 - (i + 1)) % m)) (w : World)
    (hM : ∀ a b W, U256 a → U256 b → Keeps w W → Calls Tryd.prog 67 #[fv, .agg ((words a).map (Value.int .u64)).toArray, .agg ((words b).map (Value.int .u64)).toArray] W fun e w' => e = .returned (.agg ((words (a * b % m)).map (Value.int .u64)).toArray) ∧ Keeps W w') :
    Calls Tryd.prog 78 #[fv, .agg ((words x).map (Value.int .u64)).toArray, .agg (E.map (Value.int .u64)).toArray] w fun e' w' => e' = .returned (.agg ((words (P 256)).map (Value.int .u64)).toArray) ∧ Keeps w w' := by
  have HM := Lib.hid hM; have HS := Lib.hid hS; have HPU := Lib.hid hPU; have HER := Lib.hid hER; have HE := Lib.hid hE; have HXU := Lib.hid hx
  have hxl := words_length x
  have HP0 := Lib.hid h0
  generalize hX : words x = X at *
  have HX := Lib.hid hX
  have HXL := Lib.hid hxl
  obtain ⟨T, hT⟩ : ∃ T : Nat → List Int, ∀ j, T j = words (P j) := ⟨fun j => words (P j), fun _ => rfl⟩
  rw [← hT 256]
  have HT := Lib.hid hT
  have HTL := Lib.hid (fun j => show (T j).length = 4 by rw [hT]; exact words_length _)
  clear hM hS hPU hER hE hx h0 hX hxl hT
  go_enter Tryd.func78, Tryd.ntmps78
  go_upto_region 2 with (fail)
  refine wp_rows4 (fun W hk hra hrb hr2 hr3 hs => ?_)
  obtain ⟨p, hp⟩ : ∃ p, p = w.heap.size := ⟨_, rfl⟩
  rw [← hp] at hra hrb hr2 hr3 hs ⊢
  have hkp : w.heap.size ≤ p := by omega
  obtain ⟨Z, hZ, hrz⟩ : ∃ Z : List Value, Z.length = 4 ∧ Row W (p + 1 + 1) 0 Z := ⟨_, rfl, hr2⟩
  have HM0 := Lib.hid (show PowMem w W p X E (T 0) Z from ⟨hk, hra, hrb, hrz, by rw [HT.out, HP0.out]; exact hr3⟩)
  clear hp hra hrb hr2 hr3 hrz hk hs
  go_wp2
  go_loopw [8] (fun c wr => ∃ (k : Nat) (z : Int), k ≤ 256 ∧ c = .int .i64 z ∧ Hid (z = (k : Int) - 1) ∧ Hid (PowMem w wr p X E (T (256 - k)) Z)) (fun c _ => (intOf c + 1).toNat)
  case atStart => exact ⟨256, 255, by omega, rfl, Lib.hid (by omega), HM0⟩
  case round =>
    obtain ⟨k, z, hk8, rfl, HZ, HMM⟩ := hrel
    obtain ⟨hk9, hra9, hrb9, hrz9, hrt9⟩ := HMM.out
    have H1 := Lib.hid hk9; have H2 := Lib.hid hra9; have H3 := Lib.hid hrb9; have H4 := Lib.hid hrz9; have H5 := Lib.hid hrt9
    clear HMM hk9 hra9 hrb9 hrz9 hrt9
    have hkc : k = 0 ∨ ∃ i, k = i + 1 := by
      cases k with
      | zero => exact .inl rfl
      | succ i => exact .inr ⟨i, rfl⟩
    rcases hkc with rfl | ⟨i, rfl⟩
    · obtain rfl : z = -1 := by have := HZ.out; omega
      rw [Nat.sub_zero] at H5
      have hl9 := HTL.out 256
      go_wp2_with (first | (refine wpList_load_at rfl 70 (.tmp 7) rfl _ 0 rfl ((T 256).map (Value.int .u64)) _ H5.out Tryd.underlying70 rfl (by rw [List.length_map, hl9]; exact sz_cnum) ?_) | (refine wpList_store_row rfl 70 (.tmp 6) (.tmp 31) rfl (p + 1 + 1) 0 rfl Z ((T 256).map (Value.int .u64)) rfl H4.out (by rw [List.length_map, hl9, hZ]) (by rw [List.length_map, hl9]; exact sz_cnum) (int_oneCell _) ?_; intro w9 hr9 hc9; have H9 := Lib.hid hr9; have HC9 := Lib.hid hc9; clear hr9 hc9))
      exact bodyPost_ret (v := .agg ((T 256).map (Value.int .u64)).toArray) (results_cell_at (p := 6) (ty := 70) rfl _ _ (p + 1 + 1) 0 _ _ rfl H9.out Tryd.underlying70 rfl (by rw [List.length_map, hl9]; exact sz_cnum)) rfl ⟨rfl, nm_keeps_chg H1.out HC9.out (by omega)⟩
    · obtain rfl : z = (i : Int) := by have := HZ.out; omega
      have hi : i < 256 := by omega
      have c1 := H3.out.int0 (i / 64) (by rw [HE.out]; omega)
      have he := HER.out (i / 64) (by omega)
      have hst := HS.out i hi
      have hpu := HPU.out (256 - (i + 1))
      have HT1 := Lib.hid (HT.out (256 - (i + 1)))
      have HT2 := Lib.hid (HT.out (256 - i))
      have ht1 := HTL.out (256 - (i + 1))
      have ht2 := HTL.out (256 - i)
      generalize hew : E.getD (i / 64) 0 = ew at *
      have HEW := Lib.hid hew
      clear hew
      generalize P (256 - (i + 1)) = a at *
      generalize P (256 - i) = b at *
      generalize T (256 - (i + 1)) = TA at *
      generalize hTB : T (256 - i) = TB at *
      have HTB := Lib.hid hTB
      clear hTB
      have HM1 := Lib.hid (fun W hk => HM.out a a W hpu hpu hk)
      rw [← HT1.out] at HM1
      have hi6 : i % 64 < 64 := Nat.mod_lt _ (by decide)
      have hsl := words_length (a * a % m)
      rcases hst with ⟨hb, hst, hu2⟩ | ⟨hb, hst⟩
      · have HM2 := Lib.hid (fun W hk => HM.out (a * a % m) x W hu2 HXU.out hk)
        rw [← hst, ← HT2.out, HX.out] at HM2
        generalize words (a * a % m) = SQ at *
        have hand : bits .and .u64 (ew / 2 ^ (i % 64)) 1 = 1 := by
          rw [bits_and_one (Int.ediv_nonneg he.1 (Int.le_of_lt (Int.pow_pos (by decide)))) (Int.lt_of_le_of_lt (Int.ediv_le_self _ he.1) he.2)]; exact hb
        clear hb hst hu2
        go_upto_region 6 with (first | (refine wpList_load_at rfl 70 (.tmp 7) rfl _ 0 rfl (TA.map (Value.int .u64)) _ H5.out Tryd.underlying70 rfl (by rw [List.length_map, ht1]; exact sz_cnum) ?_) | (go_at_call 67; refine (HM1.out _ H1.out).mono ?_; rintro e W2 ⟨rfl, hk2⟩; have HK2 := Lib.hid (H1.out.trans hk2); have H2' := Lib.hid (H2.out.keeps hk2); have H3' := Lib.hid (H3.out.keeps hk2); have H4' := Lib.hid (H4.out.keeps hk2); have H5' := Lib.hid (H5.out.keeps hk2); clear hk2) | (refine wpList_store_row rfl 70 (.tmp 7) (.tmp 17) rfl (p + 1 + 1 + 1) 0 rfl (TA.map (Value.int .u64)) (SQ.map (Value.int .u64)) rfl H5'.out (by rw [List.length_map, List.length_map, ht1, hsl]) (by rw [List.length_map, hsl]; exact sz_cnum) (int_oneCell _) ?_; intro W3 hr9 hc9; have c1 := (H3'.out.chg hc9 (by omega)).int0 (i / 64) (by rw [HE.out]; omega); rw [HEW.out] at c1; have K2 := Lib.hid (H2'.out.chg hc9 (by omega)); have K3 := Lib.hid (H3'.out.chg hc9 (by omega)); have K4 := Lib.hid (H4'.out.chg hc9 (by omega)); have K5 := Lib.hid hr9; have K1 := Lib.hid (nm_keeps_chg HK2.out hc9 (by omega)); clear hr9 hc9))
        go_upto_region 7 with (fail)
        go_wp2_with (first | (refine wpList_load_at rfl 70 (.tmp 7) rfl _ 0 rfl (SQ.map (Value.int .u64)) _ K5.out Tryd.underlying70 rfl (by rw [List.length_map, hsl]; exact sz_cnum) ?_) | (refine wpList_load_at rfl 70 (.tmp 4) rfl _ 0 rfl (X.map (Value.int .u64)) _ K2.out Tryd.underlying70 rfl (by rw [List.length_map, HXL.out]; exact sz_cnum) ?_) | (go_at_call 67; refine (HM2.out _ K1.out).mono ?_; rintro e W4 ⟨rfl, hk2⟩; have M1 := Lib.hid (K1.out.trans hk2); have M2 := Lib.hid (K2.out.keeps hk2); have M3 := Lib.hid (K3.out.keeps hk2); have M4 := Lib.hid (K4.out.keeps hk2); have M5 := Lib.hid (K5.out.keeps hk2); clear hk2) | (refine wpList_store_row rfl 70 (.tmp 7) (.tmp 30) rfl (p + 1 + 1 + 1) 0 rfl (SQ.map (Value.int .u64)) (TB.map (Value.int .u64)) rfl M5.out (by rw [List.length_map, List.length_map, ht2, hsl]) (by rw [List.length_map, ht2]; exact sz_cnum) (int_oneCell _) ?_; intro W5 hr9 hc9; have N2 := Lib.hid (M2.out.chg hc9 (by omega)); have N3 := Lib.hid (M3.out.chg hc9 (by omega)); have N4 := Lib.hid (M4.out.chg hc9 (by omega)); have N5 := Lib.hid hr9; have N1 := Lib.hid (nm_keeps_chg M1.out hc9 (by omega)); clear hr9 hc9))
        go_roundw
        case rel => exact ⟨i, (i : Int) - 1, by omega, by first | rfl | go_num, Lib.hid rfl, Lib.hid ⟨N1.out, N2.out, N3.out, N4.out, by rw [HTB.out]; exact N5.out⟩⟩
        case measure => simp [intOf] <;> omega
      · rw [← hst, ← HT2.out] at HM1
        have hand : bits .and .u64 (ew / 2 ^ (i % 64)) 1 = 0 := by
          rw [bits_and_one (Int.ediv_nonneg he.1 (Int.le_of_lt (Int.pow_pos (by decide)))) (Int.lt_of_le_of_lt (Int.ediv_le_self _ he.1) he.2)]; exact hb
        obtain ⟨SQ, hSQ⟩ : ∃ SQ, SQ = TB := ⟨_, rfl⟩
        have hsl : SQ.length = 4 := by rw [hSQ]; exact ht2
        rw [← hSQ] at HM1
        have HSQ := Lib.hid hSQ
        clear hb hst hSQ
        go_wp2_with (first | (refine wpList_load_at rfl 70 (.tmp 7) rfl _ 0 rfl (TA.map (Value.int .u64)) _ H5.out Tryd.underlying70 rfl (by rw [List.length_map, ht1]; exact sz_cnum) ?_) | (go_at_call 67; refine (HM1.out _ H1.out).mono ?_; rintro e W2 ⟨rfl, hk2⟩; have HK2 := Lib.hid (H1.out.trans hk2); have H2' := Lib.hid (H2.out.keeps hk2); have H3' := Lib.hid (H3.out.keeps hk2); have H4' := Lib.hid (H4.out.keeps hk2); have H5' := Lib.hid (H5.out.keeps hk2); clear hk2) | (refine wpList_store_row rfl 70 (.tmp 7) (.tmp 17) rfl (p + 1 + 1 + 1) 0 rfl (TA.map (Value.int .u64)) (SQ.map (Value.int .u64)) rfl H5'.out (by rw [List.length_map, List.length_map, ht1, hsl]) (by rw [List.length_map, hsl]; exact sz_cnum) (int_oneCell _) ?_; intro W3 hr9 hc9; have c1 := (H3'.out.chg hc9 (by omega)).int0 (i / 64) (by rw [HE.out]; omega); rw [HEW.out] at c1; have K2 := Lib.hid (H2'.out.chg hc9 (by omega)); have K3 := Lib.hid (H3'.out.chg hc9 (by omega)); have K4 := Lib.hid (H4'.out.chg hc9 (by omega)); have K5 := Lib.hid hr9; have K1 := Lib.hid (nm_keeps_chg HK2.out hc9 (by omega)); clear hr9 hc9))
        go_roundw
        case rel => exact ⟨i, (i : Int) - 1, by omega, by first | rfl | go_num, Lib.hid rfl, Lib.hid ⟨K1.out, K2.out, K3.out, K4.out, by rw [HTB.out, ← HSQ.out]; exact K5.out⟩⟩
        case measure => simp [intOf] <;> omega
theorem pow_any (g off m : Nat) (F : List Int) (hF : Fld (m : Int) F) (x e : Nat) (hx : x < 2 ^ 256) (he : e < 2 ^ 256) (w : World) (hr : Row w g off (F.map (Value.int .u64))) :
    Calls Tryd.prog 78 #[.pointer (some ⟨g, off, none⟩), .agg ((words (x : Int)).map (Value.int .u64)).toArray, .agg ((words (e : Int)).map (Value.int .u64)).toArray] w fun e' w' => e' = .returned (.agg ((words ((x ^ e % m : Nat) : Int)).map (Value.int .u64)).toArray) ∧ Keeps w w' := by
  have hm2 : m < 2 ^ 256 := by have := hF.mU.2; rw [two256]; omega
  have hm1 : 1 < m := by have := hF.two; omega
  have hfin := pwN_eq (x := x) hm1 he 256 (Nat.le_refl _)
  rw [Nat.sub_self, Nat.pow_zero, Nat.div_one] at hfin
  rw [← hfin]
  refine pow_walk _ (m : Int) (x : Int) (words (e : Int)) (fun j => ((pwN m x e j : Nat) : Int)) (fun _ => true) (u256_nat hx) (words_length _) (words_range _) rfl (fun j => u256_nat (Nat.lt_trans (pwN_lt hm1 j) hm2)) (fun i hi => ?_) w (fun a b W ha hb hk => mul_any g off (m : Int) F hF a b ha hb W (hr.keeps hk))
  rw [words_bit e i hi]
  have e1 : 256 - i = 256 - (i + 1) + 1 := by omega
  have e2 : 255 - (256 - (i + 1)) = i := by omega
  have hst : pwN m x e (256 - i) = if e / 2 ^ i % 2 = 1 then pwN m x e (256 - (i + 1)) * pwN m x e (256 - (i + 1)) % m * x % m else pwN m x e (256 - (i + 1)) * pwN m x e (256 - (i + 1)) % m := by
    conv => lhs; rw [e1, pwN, e2]
  rcases Nat.mod_two_eq_zero_or_one (e / 2 ^ i) with h | h
  · refine .inr ⟨by rw [h]; rfl, ?_⟩
    rw [hst, h, if_neg (by decide)]
    rw [Int.natCast_emod, Int.natCast_mul]
  · refine .inl ⟨by rw [h]; rfl, ?_, ?_⟩
    · rw [hst, h, if_pos rfl, Int.natCast_emod, Int.natCast_mul, Int.natCast_emod, Int.natCast_mul]
    · rw [← Int.natCast_mul, ← Int.natCast_emod]
      exact u256_nat (Nat.lt_trans (Nat.mod_lt _ (by omega)) hm2)
set_option maxRecDepth 100000 in
set_option maxHeartbeats 1000000 in
theorem inverse_any (g off m : Nat) (F : List Int) (hF : Fld (m : Int) F) (x : Nat) (hx : x < 2 ^ 256) (w : World) (hr : Row w g off (F.map (Value.int .u64))) :
    Calls Tryd.prog 90 #[.pointer (some ⟨g, off, none⟩), .agg ((words (x : Int)).map (Value.int .u64)).toArray] w fun e w' => e = .returned (.agg ((words ((x ^ (m - 2) % m : Nat) : Int)).map (Value.int .u64)).toArray) ∧ Keeps w w' := by
  have hm2 : m < 2 ^ 256 := by have := hF.mU.2; rw [two256]; omega
  have hm1 : 2 < m := by have := hF.two; omega
  have HSUB := Lib.hid (csub_any (m : Int) 2 hF.mU ⟨by decide, by decide⟩)
  rw [show (m : Int) - 2 = ((m - 2 : Nat) : Int) by omega] at HSUB
  have HPOW := Lib.hid (fun W (hk : Keeps w W) => pow_any g off m F hF x (m - 2) hx (by omega) W (hr.keeps hk))
  have HB2 := Lib.hid built_two
  have hl := words_length (x : Int)
  have hml := words_length (m : Int)
  have hdl := words_length ((m - 2 : Nat) : Int)
  have hrl := words_length ((x ^ (m - 2) % m : Nat) : Int)
  have HROW := Lib.hid (show Row w g off ((words (m : Int)).map (Value.int .u64)) by rw [← hF.m4, List.map_take]; exact hr.take 4)
  generalize words ((x ^ (m - 2) % m : Nat) : Int) = RES at *
  generalize words ((m - 2 : Nat) : Int) = R at *
  generalize words (x : Int) = X at *
  generalize words (m : Int) = MM at *
  generalize decide ((m : Int) < 2) = D at *
  generalize words 2 = TW at *
  clear hr hx hF hm1 hm2
  go_enter Tryd.func90, Tryd.ntmps90
  go_upto_region 1 with (fail)
  refine cu_rows2 (fun W hk hr hr2 hs => ?_)
  obtain ⟨p, hp⟩ : ∃ p, p = w.heap.size := ⟨_, rfl⟩
  rw [← hp] at hr hr2 hs ⊢
  have hkp : w.heap.size ≤ p := by omega
  obtain ⟨Z, hZ, hrz⟩ : ∃ Z : List Value, Z.length = 4 ∧ Row W (p + 1) 0 Z := ⟨_, rfl, hr2⟩
  have HR := Lib.hid (show Row W p 0 (X.map (Value.int .u64)) from hr); have HK := Lib.hid hk; have HZ := Lib.hid hrz
  have HRM := Lib.hid (HROW.out.keeps hk)
  clear hk hr hr2 hrz hp HROW
  go_upto_region 2 with (first | (refine wpList_load_at rfl 70 (.tmp 10) rfl g off rfl (MM.map (Value.int .u64)) _ HRM.out Tryd.underlying70 rfl (by rw [List.length_map, hml]; exact sz_cnum) ?_) | (refine cu_build (by kernel_rfl) 70 _ rfl _ ?_ _ HB2.out ?_; focus (simp only [List.map_toArray, List.map_cons, List.map_nil]; rfl)) | (go_at_call 64; refine (HSUB.out _).mono ?_; rintro e W1 ⟨rfl, hk1⟩; have HK1 := Lib.hid hk1; clear hk1) | (refine wpList_store_row rfl 70 (.tmp 5) (.tmp 14) rfl W1.heap.size 0 rfl [.int .u64 0, .int .u64 0, .int .u64 0, .int .u64 0] (R.map (Value.int .u64)) rfl (Row.new _ _ _ rfl) (by rw [List.length_map, hdl]; rfl) (by rw [List.length_map, hdl]; exact sz_cnum) (int_oneCell _) ?_; intro W2 hr2 hc2; have HR2 := Lib.hid hr2; have HK2 := Lib.hid (nm_keeps_chg (nm_keeps_alloc HK1.out _) hc2 HK1.out.size); clear hr2 hc2))
  have H3 := HR2
  have HX := Lib.hid (HR.out.keeps HK2.out)
  have H2 := Lib.hid (HZ.out.keeps HK2.out)
  have HK2 := Lib.hid (HK.out.trans HK2.out)
  go_wp2_with (first | (refine wpList_load_at rfl 70 (.tmp 3) rfl _ 0 rfl (X.map (Value.int .u64)) _ HX.out Tryd.underlying70 rfl (by rw [List.length_map, hl]; exact sz_cnum) ?_) | (refine wpList_load_at rfl 70 (.tmp 5) rfl _ 0 rfl (R.map (Value.int .u64)) _ H3.out Tryd.underlying70 rfl (by rw [List.length_map, hdl]; exact sz_cnum) ?_) | (go_at_call 78; refine (HPOW.out _ HK2.out).mono ?_; rintro e W2 ⟨rfl, hk2⟩; have HK3 := Lib.hid hk2; clear hk2) | (refine wpList_store_row rfl 70 (.tmp 4) (.tmp 19) rfl (p + 1) 0 rfl Z (RES.map (Value.int .u64)) rfl (H2.out.keeps HK3.out) (by rw [List.length_map, hrl, hZ]) (by rw [List.length_map, hrl]; exact sz_cnum) (int_oneCell _) ?_; intro w9 hr9 hc9; have H9 := Lib.hid hr9; have HC9 := Lib.hid hc9; clear hr9 hc9))
  exact bodyPost_ret (v := .agg (RES.map (Value.int .u64)).toArray) (results_cell_at (p := 4) (ty := 70) rfl _ _ (p + 1) 0 _ _ rfl H9.out Tryd.underlying70 rfl (by rw [List.length_map, hrl]; exact sz_cnum)) rfl ⟨rfl, nm_keeps_chg (HK2.out.trans HK3.out) HC9.out (by omega)⟩
theorem RMem5.keeps {w wr w' : World} {p : Nat} {X Y M L : List Int} {Z : List Value} (h : RMem5 w wr p X Y M L Z) (hk : Keeps wr w') : RMem5 w w' p X Y M L Z :=
  ⟨h.1.trans hk, h.2.1.keeps hk, h.2.2.1.keeps hk, h.2.2.2.1.keeps hk, h.2.2.2.2.1.keeps hk, h.2.2.2.2.2.keeps hk⟩
theorem RMem5.put {w wr w' : World} {p : Nat} {X Y M L L' : List Int} {Z : List Value} (h : RMem5 w wr p X Y M L Z) (hp : w.heap.size ≤ p) (hc : Chg (· = p + 1 + 1 + 1 + 1) wr w') (hr : Row w' (p + 1 + 1 + 1 + 1) 0 (L'.map (Value.int .u32))) : RMem5 w w' p X Y M L' Z :=
  ⟨nm_keeps_chg h.1 hc (by omega), h.2.1.chg hc (by omega), h.2.2.1.chg hc (by omega), h.2.2.2.1.chg hc (by omega), h.2.2.2.2.1.chg hc (by omega), hr⟩
end Go.Proofs.YtlofddoojkeakaaDoor
