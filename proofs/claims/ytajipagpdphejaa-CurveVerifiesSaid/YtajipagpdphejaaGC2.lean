/- curve's numbers: halved, and as bytes. No condition. | curve's field: products and powers modulo m. No condition. -/
import Derived.Test.YtajipagpdphejaaGB3
import Derived.Test.YtajipagpdphejaaGC1
namespace Go.Proofs.Ytajipagpdphejaa
set_option linter.unusedVariables false
set_option linter.unusedSimpArgs false
open Go Go.RowKit

/-- a word of the half: the word's half, and the lowest bit of the next one -/
theorem half_step {x : Int} (h : U256 x) (i : Nat) (hi : i < 4) : (words x).getD i 0 / 2 + (if i < 3 then (words x).getD (i + 1) 0 else 0) * 9223372036854775808 % 18446744073709551616 = (words (x / 2)).getD i 0 := by
  unfold U256 at h
  have : i = 0 ∨ i = 1 ∨ i = 2 ∨ i = 3 := by omega
  rcases this with rfl | rfl | rfl | rfl <;> simp [words] <;> omega
theorem mixW_getD' (r u : Int) (i j : Nat) (h : i ≤ j) (hj : j < 4) : (mixW r u i).getD j 0 = (words u).getD j 0 := by
  have h1 : ((words r).take i).length = i := by rw [List.length_take, words_length]; omega
  unfold mixW
  rw [List.getD, List.getElem?_append_right (by omega), h1, List.getElem?_drop, show i + (j - i) = j by omega]; rfl
set_option maxRecDepth 100000 in
set_option maxHeartbeats 4000000 in
theorem half_any (x : Int) (hx : U256 x) (w : World) :
    Calls Try.prog 80 #[.agg ((words x).map (Value.int .u64)).toArray, .int .u64 0] w fun e w' => e = .returned (.agg ((words (x / 2)).map (Value.int .u64)).toArray) ∧ Keeps w w' := by
  have hset := mixW_set (x / 2) x
  have hlen := mixW_length (x / 2) x
  have hzero := mixW_zero (x / 2) x
  have hfull := mixW_full (x / 2) x
  have hgd := mixW_getD' (x / 2) x
  have hstep := half_step hx
  have hr1 := words_range x
  have hxl := words_length x
  have hrl := words_length (x / 2)
  generalize mixW (x / 2) x = M at *
  generalize words x = X at *
  generalize words (x / 2) = R at *
  have HSET := Lib.hid hset; have HLEN := Lib.hid hlen; have HZERO := Lib.hid hzero; have HFULL := Lib.hid hfull; have HGD := Lib.hid hgd; have HSTEP := Lib.hid hstep; have HR1 := Lib.hid hr1; have HRL := Lib.hid hrl
  clear hset hlen hzero hfull hgd hstep hr1 hxl hrl hx
  go_enter Try.func80, Try.ntmps80
  go_upto_region 1 with (fail)
  refine cu_rows2 (fun W hk hra hrb hs => ?_)
  obtain ⟨p, hp⟩ : ∃ p, p = w.heap.size := ⟨_, rfl⟩
  rw [← hp] at hra hrb hs ⊢
  have hkp : w.heap.size ≤ p := by omega
  obtain ⟨Z, hZ, hrz⟩ : ∃ Z : List Value, Z.length = 4 ∧ Row W (p + 1) 0 Z := ⟨_, rfl, hrb⟩
  have HRM := Lib.hid (show Row W p 0 ((M 0).map (Value.int .u64)) by rw [HZERO.out]; exact hra); have HRZ := Lib.hid hrz; have HK := Lib.hid hk
  clear hp hra hrb hrz hk hs
  go_wp2
  go_loopw [5, 6, 7] (fun _ _ c wr => ∃ i : Nat, i ≤ 4 ∧ c = .int .i64 i ∧ Keeps w wr ∧ Row wr p 0 ((M i).map (Value.int .u64)) ∧ Row wr (p + 1) 0 Z) (fun _ _ c _ => (4 - intOf c).toNat)
  case atStart => exact ⟨0, by omega, rfl, HK.out, HRM.out, HRZ.out⟩
  case round =>
    obtain ⟨i, hi, rfl, hk, hrm, hrz⟩ := hrel
    by_cases hlt : i < 4
    · have c1 := hrm.int0 i (by rw [HLEN.out i hi]; exact hlt)
      have f3 := hrm.free0 i (by rw [List.length_map, HLEN.out i hi]; exact hlt)
      rw [HGD.out i i (by omega) hlt] at c1
      have s1 := HSTEP.out i hlt
      obtain ⟨x0, x1⟩ := HR1.out i hlt
      have hset := hrm.setInt0 i (by rw [HLEN.out i hi]; exact hlt) (R.getD i 0)
      rw [HSET.out i hlt] at hset
      by_cases h3 : i < 3
      · have c2 := hrm.int0 (i + 1) (by rw [HLEN.out i hi]; omega)
        rw [HGD.out i (i + 1) (by omega) (by omega)] at c2
        obtain ⟨y0, y1⟩ := HR1.out (i + 1) (by omega)
        rw [if_pos h3] at s1
        generalize X.getD i 0 = x at *
        generalize X.getD (i + 1) 0 = y at *
        have HOR := Lib.hid (show bits .or .u64 (x / 2) (IntKind.u64.wrap (y * 9223372036854775808)) = R.getD i 0 by rw [← s1, IntKind.wrap_u64, bits_or_comm, nm_u64_join 63 _ _ (by omega) (by omega) (by omega) (by omega) (by omega) (by omega)]; omega)
        have HS := Lib.hid hset; have H2 := Lib.hid hrz; have HK2 := Lib.hid hk
        clear hset hrz hrm hk s1
        go_wp2
        go_roundw
        case rel => exact ⟨i + 1, by omega, by go_num, keeps_set HK2.out (by omega) _, by rw [HOR.out]; exact HS.out, H2.out.other (by simp) _⟩
        case measure => simp [intOf]; omega
      · rw [if_neg h3] at s1
        generalize X.getD i 0 = x at *
        have HOR := Lib.hid (show bits .or .u64 (x / 2) (0 * 9223372036854775808 % 18446744073709551616) = R.getD i 0 by rw [← s1, bits_or_comm, nm_u64_join 63 _ _ (by omega) (by omega) (by omega) (by omega) (by omega) (by omega)]; omega)
        have HS := Lib.hid hset; have H2 := Lib.hid hrz; have HK2 := Lib.hid hk
        clear hset hrz hrm hk s1
        go_wp2
        go_roundw
        case rel => exact ⟨i + 1, by omega, by go_num, keeps_set HK2.out (by omega) _, by first | (rw [HOR.out]; exact HS.out) | (have := HOR.out; simp only [Int.zero_mul, Int.zero_emod] at this; rw [this]; exact HS.out), H2.out.other (by simp) _⟩
        case measure => simp [intOf]; omega
    · obtain rfl : i = 4 := by omega
      rw [HFULL.out] at hrm
      have H2 := Lib.hid hrz; have H3 := Lib.hid hrm; have HK2 := Lib.hid hk
      clear hrz hrm hk
      have hl9 := HRL.out
      go_wp2_with (first | (refine wpList_load_at rfl 69 (.tmp 2) rfl _ 0 rfl (R.map (Value.int .u64)) _ H3.out Try.underlying69 rfl (by rw [List.length_map, hl9]; exact sz_cnum) ?_) | (refine wpList_store_row rfl 69 (.tmp 4) (.tmp 27) rfl (p + 1) 0 rfl Z (R.map (Value.int .u64)) rfl H2.out (by rw [List.length_map, hl9, hZ]) (by rw [List.length_map, hl9]; exact sz_cnum) (int_oneCell _) ?_; intro w9 hr9 hc9; have H9 := Lib.hid hr9; have HC9 := Lib.hid hc9; clear hr9 hc9))
      exact bodyPost_ret (v := .agg (R.map (Value.int .u64)).toArray) (results_cell_at (p := 4) (ty := 69) rfl _ _ (p + 1) 0 _ _ rfl H9.out Try.underlying69 rfl (by rw [List.length_map, hl9]; exact sz_cnum)) rfl ⟨rfl, nm_keeps_chg HK2.out HC9.out (by omega)⟩
set_option maxRecDepth 100000 in
set_option maxHeartbeats 4000000 in
theorem cbytes_any (v : Int) (w : World) :
    Calls Try.prog 55 #[.agg ((words v).map (Value.int .u64)).toArray] w fun e w' => e = .returned (.agg ((toB 32 v).map (Value.int .u8)).toArray) ∧ Keeps w w' := by
  have htl := toB_length 32 v
  have HBY := Lib.hid (words_wbyte v)
  have HRG := Lib.hid (words_range v)
  have hwl := words_length v
  generalize words v = L at *
  generalize toB 32 v = RR at *
  go_enter Try.func55, Try.ntmps55
  go_upto_region 2 with (fail)
  refine wp_rows3 (fun W hk hra hr2 hr3 hs => ?_)
  obtain ⟨p, hp⟩ : ∃ p, p = w.heap.size := ⟨_, rfl⟩
  rw [← hp] at hra hr2 hr3 hs ⊢
  have hkp : w.heap.size ≤ p := by omega
  obtain ⟨Z, hZ, hrz⟩ : ∃ Z : List Value, Z.length = 32 ∧ Row W (p + 1) 0 Z := ⟨_, rfl, hr2⟩
  have HRA := Lib.hid (show Row W p 0 (L.map (Value.int .u64)) from hra); have HR2 := Lib.hid hrz
  have HR3 := Lib.hid (show Row W (p + 1 + 1) 0 ((upto0 RR 32 0).map (Value.int .u8)) by rw [upto0_zero]; exact hr3)
  have HK := Lib.hid hk
  clear hp hra hr2 hrz hr3 hk
  go_wp2
  go_loopw [4, 5] (fun _ c wr => ∃ i : Nat, i ≤ 32 ∧ c = .int .i64 i ∧ Keeps w wr ∧ Row wr p 0 (L.map (Value.int .u64)) ∧ Row wr (p + 1) 0 Z ∧ Row wr (p + 1 + 1) 0 ((upto0 RR 32 i).map (Value.int .u8))) (fun _ c _ => (32 - intOf c).toNat)
  case atStart => exact ⟨0, by omega, rfl, HK.out, HRA.out, HR2.out, HR3.out⟩
  case round =>
    obtain ⟨i, hi, rfl, hk, hra, hr2, hr3⟩ := hrel
    by_cases hlt : i < 32
    · have c2 := hra.int0 (3 - i / 8) (by omega)
      have c3 := hr3.int0 i (by rw [upto0_length _ _ _ htl hi]; exact hlt)
      have f3 := hr3.free0 i (by rw [List.length_map, upto0_length _ _ _ htl hi]; exact hlt)
      have hs := hr3.setInt0 i (by rw [upto0_length _ _ _ htl hi]; exact hlt) (RR.getD i 0)
      rw [upto0_set _ _ _ htl hlt] at hs
      obtain ⟨x0, x1⟩ := HRG.out (3 - i / 8) (by omega)
      have HB := Lib.hid (HBY.out i hlt)
      generalize (upto0 RR 32 i).getD i 0 = old at *
      generalize L.getD (3 - i / 8) 0 = x at *
      have HS := Lib.hid hs; have H1 := Lib.hid hra; have H2 := Lib.hid hr2; have HK2 := Lib.hid hk
      clear hs hra hr2 hr3 hk
      go_wp2
      go_roundw
      case rel => exact ⟨i + 1, by omega, by go_num, keeps_set HK2.out (by omega) _, H1.out.other (by simp; omega) _, H2.out.other (by simp) _, by rw [← HB.out] at HS; exact HS.out⟩
      case measure => simp [intOf]; omega
    · obtain rfl : i = 32 := by omega
      rw [upto0_full _ _ htl] at hr3
      have H2 := Lib.hid hr2; have H3 := Lib.hid hr3; have HK2 := Lib.hid hk
      clear hra hr2 hr3 hk
      go_wp2_with (first | (refine wpList_load_at rfl 22 (.tmp 3) rfl _ 0 rfl (RR.map (Value.int .u8)) _ H3.out Try.underlying22 rfl (by rw [List.length_map, htl]; exact sz_b32') ?_) | (refine wpList_store_row rfl 22 (.tmp 2) (.tmp 22) rfl (p + 1) 0 rfl Z (RR.map (Value.int .u8)) rfl H2.out (by rw [List.length_map, htl, hZ]) (by rw [List.length_map, htl]; exact sz_b32') (int_oneCell _) ?_; intro w9 hr9 hc9; have H9 := Lib.hid hr9; have HC9 := Lib.hid hc9; clear hr9 hc9))
      exact bodyPost_ret (v := .agg (RR.map (Value.int .u8)).toArray) (results_cell_at (p := 2) (ty := 22) rfl _ _ (p + 1) 0 _ _ rfl H9.out Try.underlying22 rfl (by rw [List.length_map, htl]; exact sz_b32')) rfl ⟨rfl, nm_keeps_chg HK2.out HC9.out (by omega)⟩
theorem mul_any (g off : Nat) (m : Int) (F : List Int) (hF : Fld m F) (x y : Int) (hx : U256 x) (hy : U256 y) (w : World) (hr : Row w g off (F.map (Value.int .u64))) :
    Calls Try.prog 42 #[.pointer (some ⟨g, off, none⟩), .agg ((words x).map (Value.int .u64)).toArray, .agg ((words y).map (Value.int .u64)).toArray] w fun e w' => e = .returned (.agg ((words (x * y % m)).map (Value.int .u64)).toArray) ∧ Keeps w w' :=
  mulw_any _ x y (words (x * y % m)) rfl hx hy w (fun L W hl hd hv hk => by
    have := fold_any g off m F hF L hl hd W (hr.keeps hk)
    rwa [hv] at this)
/-- a power, bit by bit from the top -/
def pwN (m x e : Nat) : Nat → Nat
  | 0 => 1
  | j + 1 => if e / 2 ^ (255 - j) % 2 = 1 then pwN m x e j * pwN m x e j % m * x % m else pwN m x e j * pwN m x e j % m
theorem pwN_eq {m x e : Nat} (hm : 1 < m) (he : e < 2 ^ 256) : ∀ j, j ≤ 256 → pwN m x e j = x ^ (e / 2 ^ (256 - j)) % m
  | 0, _ => by rw [Nat.sub_zero, Nat.div_eq_of_lt he, Nat.pow_zero, Nat.mod_eq_of_lt hm]; rfl
  | j + 1, hj => by
    have ih := pwN_eq (x := x) hm he j (by omega)
    have e1 : e / 2 ^ (256 - j) = e / 2 ^ (256 - (j + 1)) / 2 := by
      rw [Nat.div_div_eq_div_mul, ← Nat.pow_succ, show (256 - (j + 1)).succ = 256 - j by omega]
    rw [show 256 - (j + 1) = 255 - j by omega] at e1 ⊢
    unfold pwN
    rw [ih, e1]
    generalize e / 2 ^ (255 - j) = k
    have hk := Nat.div_add_mod k 2
    rcases Nat.mod_two_eq_zero_or_one k with h | h
    · rw [h, if_neg (by decide), ← Nat.mul_mod, ← Nat.pow_add, show k / 2 + k / 2 = k by omega]
    · rw [h, if_pos rfl, ← Nat.mul_mod, ← Nat.pow_add, Nat.mod_mul_mod, ← Nat.pow_succ, Nat.succ_eq_add_one, show k / 2 + k / 2 + 1 = k by omega]
theorem pwN_lt {m x e : Nat} (hm : 1 < m) (j : Nat) : pwN m x e j < m := by
  cases j with
  | zero => exact hm
  | succ j => unfold pwN; split <;> exact Nat.mod_lt _ (by omega)
theorem words_bit (e : Nat) (i : Nat) (hi : i < 256) : (words (e : Int)).getD (i / 64) 0 / 2 ^ (i % 64) % 2 = ((e / 2 ^ i % 2 : Nat) : Int) := by
  rw [words_getD' _ _ (by omega)]
  have h1 : ((18446744073709551616 : Int) ^ (i / 64)) = ((2 ^ (64 * (i / 64)) : Nat) : Int) := by
    rw [show (18446744073709551616 : Int) = ((2 ^ 64 : Nat) : Int) by decide, ← Int.natCast_pow, ← Nat.pow_mul]
  have h2 : ((2 : Int) ^ (i % 64)) = ((2 ^ (i % 64) : Nat) : Int) := by rw [Int.natCast_pow]; rfl
  have h3 : (18446744073709551616 : Int) = ((2 ^ 64 : Nat) : Int) := by decide
  rw [h1, h2, h3]
  norm_cast
  have h4 : i = 64 * (i / 64) + i % 64 := by omega
  conv => rhs; rw [h4, Nat.pow_add, ← Nat.div_div_eq_div_mul]
  generalize e / 2 ^ (64 * (i / 64)) = q
  have h5 : i % 64 < 64 := Nat.mod_lt _ (by decide)
  generalize i % 64 = r at *
  rw [show (2 ^ 64 : Nat) = 2 ^ r * 2 ^ (64 - r) by rw [← Nat.pow_add, show r + (64 - r) = 64 by omega], Nat.mod_mul_right_div_self, show 64 - r = 1 + (63 - r) by omega, Nat.pow_add, Nat.pow_one, Nat.mod_mul_right_mod]
end Go.Proofs.Ytajipagpdphejaa
