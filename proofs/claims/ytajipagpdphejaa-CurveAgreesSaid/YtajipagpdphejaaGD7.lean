/- The reference's Bytes and Pack. No condition. -/
import Derived.Test.YtajipagpdphejaaGD4
import Derived.Test.YtajipagpdphejaaGD6
import Derived.Test.YtajipagpdphejaaGB6
namespace Go.Proofs.Ytajipagpdphejaa
set_option linter.unusedVariables false
set_option linter.unusedSimpArgs false
open Go Go.RowKit Cv

theorem words8_byte (v : Int) (i : Nat) (hi : i < 32) : (words8 v).getD (7 - i / 4) 0 / 2 ^ (24 - 8 * (i % 4)) % 256 = (toB 32 v).getD i 0 := by
  rw [words8_getD _ _ (by omega), toB_getD _ _ _ hi]
  have e : 32 - 1 - i = 4 * (7 - i / 4) + (3 - i % 4) := by omega
  have e2 : (4294967296 : Int) ^ (7 - i / 4) = 256 ^ (4 * (7 - i / 4)) := by rw [Int.pow_mul]; rfl
  rw [e, e2, Int.pow_add, ← Int.ediv_ediv_of_nonneg (Int.pow_nonneg (by decide))]
  generalize v / 256 ^ (4 * (7 - i / 4)) = u
  have hr : i % 4 = 0 ∨ i % 4 = 1 ∨ i % 4 = 2 ∨ i % 4 = 3 := by omega
  rcases hr with hr | hr | hr | hr <;> rw [hr] <;> simp only [Nat.mul_zero, Nat.sub_zero, Nat.sub_self, Int.pow_zero, Int.ediv_one, Nat.reduceMul, Nat.reduceSub, Int.reducePow] <;> omega
/-- the byte that a word gives to place i -/
def wbyte8 (x : Int) (i : Nat) : Int := x / 2 ^ (24 - 8 * (i % 4)) % 256
theorem words8_wbyte (v : Int) (i : Nat) (hi : i < 32) : wbyte8 ((words8 v).getD (7 - i / 4) 0) i = (toB 32 v).getD i 0 := words8_byte v i hi
set_option maxRecDepth 100000 in
set_option maxHeartbeats 4000000 in
theorem rbytes_any (v : Int) (w : World) :
    Calls Try.prog 57 #[.agg ((words8 v).map (Value.int .u32)).toArray] w fun e w' => e = .returned (.agg ((toB 32 v).map (Value.int .u8)).toArray) ∧ Keeps w w' := by
  have htl := toB_length 32 v
  have HBY := Lib.hid (words8_wbyte v)
  have HRG := Lib.hid (words8_range v)
  have hwl := words8_length v
  generalize words8 v = L at *
  generalize toB 32 v = RR at *
  go_enter Try.func57, Try.ntmps57
  go_upto_region 2 with (fail)
  refine wp_rows3 (fun W hk hra hr2 hr3 hs => ?_)
  obtain ⟨p, hp⟩ : ∃ p, p = w.heap.size := ⟨_, rfl⟩
  rw [← hp] at hra hr2 hr3 hs ⊢
  have hkp : w.heap.size ≤ p := by omega
  obtain ⟨Z, hZ, hrz⟩ : ∃ Z : List Value, Z.length = 32 ∧ Row W (p + 1) 0 Z := ⟨_, rfl, hr2⟩
  have HRA := Lib.hid (show Row W p 0 (L.map (Value.int .u32)) from hra); have HR2 := Lib.hid hrz
  have HR3 := Lib.hid (show Row W (p + 1 + 1) 0 ((upto0 RR 32 0).map (Value.int .u8)) by rw [upto0_zero]; exact hr3)
  have HK := Lib.hid hk
  clear hp hra hr2 hrz hr3 hk
  go_wp2
  go_loopw [4] (fun c wr => ∃ i : Nat, i ≤ 32 ∧ c = .int .i64 i ∧ Keeps w wr ∧ Row wr p 0 (L.map (Value.int .u32)) ∧ Row wr (p + 1) 0 Z ∧ Row wr (p + 1 + 1) 0 ((upto0 RR 32 i).map (Value.int .u8))) (fun c _ => (32 - intOf c).toNat)
  case atStart => exact ⟨0, by omega, rfl, HK.out, HRA.out, HR2.out, HR3.out⟩
  case round =>
    obtain ⟨i, hi, rfl, hk, hra, hr2, hr3⟩ := hrel
    by_cases hlt : i < 32
    · have c2 := hra.int0 (7 - i / 4) (by omega)
      have c3 := hr3.int0 i (by rw [upto0_length _ _ _ htl hi]; exact hlt)
      have f3 := hr3.free0 i (by rw [List.length_map, upto0_length _ _ _ htl hi]; exact hlt)
      have hs := hr3.setInt0 i (by rw [upto0_length _ _ _ htl hi]; exact hlt) (RR.getD i 0)
      rw [upto0_set _ _ _ htl hlt] at hs
      obtain ⟨x0, x1⟩ := HRG.out (7 - i / 4) (by omega)
      have HB := Lib.hid (HBY.out i hlt)
      generalize (upto0 RR 32 i).getD i 0 = old at *
      generalize L.getD (7 - i / 4) 0 = x at *
      have HS := Lib.hid hs; have H1 := Lib.hid hra; have H2 := Lib.hid hr2; have HK2 := Lib.hid hk
      clear hs hra hr2 hr3 hk
      go_wp2
      go_roundw
      case rel => exact ⟨i + 1, by omega, by go_num, keeps_set HK2.out (by omega) _, H1.out.other (by simp; omega) _, H2.out.other (by simp) _, by rw [← HB.out] at HS; exact HS.out⟩
      case measure => simp [intOf]; omega
    · obtain rfl : i = 32 := by omega
      rw [upto0_full _ _ htl] at hr3
      have H2 := Lib.hid hr2; have H3 := Lib.hid hr3; have HK2 := Lib.hid hk
      clear hra hr2 hr3 hk
      go_wp2_with (first | ((with_reducible refine gate_load 22 (.tmp 3) ?_); refine wpList_load_at rfl 22 (.tmp 3) rfl _ 0 rfl (RR.map (Value.int .u8)) _ H3.out Try.underlying22 rfl (by rw [List.length_map, htl]; exact sz_b32') ?_) | ((with_reducible refine gate_store 22 (.tmp 2) (.tmp 23) ?_); refine wpList_store_row rfl 22 (.tmp 2) (.tmp 23) rfl (p + 1) 0 rfl Z (RR.map (Value.int .u8)) rfl H2.out (by rw [List.length_map, htl, hZ]) (by rw [List.length_map, htl]; exact sz_b32') (int_oneCell _) ?_; intro w9 hr9 hc9; have H9 := Lib.hid hr9; have HC9 := Lib.hid hc9; clear hr9 hc9))
      exact bodyPost_ret (v := .agg (RR.map (Value.int .u8)).toArray) (results_cell_at (p := 2) (ty := 22) rfl _ _ (p + 1) 0 _ _ rfl H9.out Try.underlying22 rfl (by rw [List.length_map, htl]; exact sz_b32')) rfl ⟨rfl, nm_keeps_chg HK2.out HC9.out (by omega)⟩
set_option maxRecDepth 100000 in
set_option maxHeartbeats 8000000 in
theorem rpack_walk (PT XL YL BX : List Int) (lPT : PT.length = 24) (lXL : XL.length = 8) (lYL : YL.length = 8) (lBX : BX.length = 32) (hy0 : 0 ≤ YL.getD 0 0 ∧ YL.getD 0 0 < 4294967296) (w : World)
    (hF : ∀ W, Calls Try.prog 51 #[.agg (PT.map (Value.int .u32)).toArray] W fun e w' => e = .returned (.tuple #[.agg (XL.map (Value.int .u32)).toArray, .agg (YL.map (Value.int .u32)).toArray]) ∧ Keeps W w')
    (hB : ∀ W, Calls Try.prog 57 #[.agg (XL.map (Value.int .u32)).toArray] W fun e w' => e = .returned (.agg (BX.map (Value.int .u8)).toArray) ∧ Keeps W w') :
    Calls Try.prog 34 #[.agg (PT.map (Value.int .u32)).toArray] w fun e w' => e = .returned (.agg (((2 + YL.getD 0 0 % 2) :: BX).map (Value.int .u8)).toArray) ∧ Keeps w w' := by
  have HF := Lib.hid hF; have HB := Lib.hid hB
  clear hF hB
  obtain ⟨PK, hPK⟩ : ∃ PK, PK = (2 + YL.getD 0 0 % 2) :: BX := ⟨_, rfl⟩
  rw [← hPK]
  have lPK : PK.length = 33 := by rw [hPK, List.length_cons, lBX]
  have HP0 := Lib.hid (show PK.getD 0 0 = 2 + YL.getD 0 0 % 2 by rw [hPK]; rfl)
  have HPS := Lib.hid (fun i => show PK.getD (i + 1) 0 = BX.getD i 0 by rw [hPK]; rfl)
  have HPL := Lib.hid lPK
  clear hPK lPK
  go_enter Try.func34, Try.ntmps34
  go_upto_region 1 with (fail)
  refine cu_rows2 (fun W hk hra hrb hs => ?_)
  obtain ⟨p, hp⟩ : ∃ p, p = w.heap.size := ⟨_, rfl⟩
  rw [← hp] at hra hrb hs ⊢
  have hkp : w.heap.size ≤ p := by omega
  obtain ⟨Zr, hZr, hrz⟩ : ∃ Zr : List Value, Zr.length = 33 ∧ Row W (p + 1) 0 Zr := ⟨_, rfl, hrb⟩
  have HRA := Lib.hid (show Row W p 0 (PT.map (Value.int .u32)) from hra)
  have HKW := Lib.hid hk; have HRres := Lib.hid hrz
  have hsz : p + 1 < W.heap.size := by omega
  clear hp hra hrb hrz hk hs
  go_upto_region 2 with (first | ((with_reducible refine gate_load 39 (.tmp 1) ?_); refine wpList_load_at rfl 39 (.tmp 1) rfl _ 0 rfl (PT.map (Value.int .u32)) _ HRA.out Try.underlying39 rfl (by rw [List.length_map, lPT]; exact sz_rpt) ?_) | (go_at_call 51; refine (HF.out _).mono ?_; rintro e V1 ⟨rfl, hk1⟩; have HV1 := Lib.hid hk1; clear hk1) | (refine cu_wl2 (fun Wa hka hr1 hr2 hs2 => ?_); have HKA := Lib.hid (HV1.out.trans hka); have HZ1 := Lib.hid (show Row Wa V1.heap.size 0 zeros8 from hr1); have HZ2 := Lib.hid (show Row Wa (V1.heap.size + 1) 0 zeros8 from hr2); clear hka hr1 hr2 hs2) | ((with_reducible refine gate_store 37 (.tmp 3) (.tmp 11) ?_); refine wpList_store_row rfl 37 (.tmp 3) (.tmp 11) rfl _ 0 rfl zeros8 (XL.map (Value.int .u32)) rfl HZ1.out (by rw [List.length_map, lXL]; rfl) (by rw [List.length_map, lXL]; exact sz_rnum) (int_oneCell _) ?_; intro W2 hr2 hc2; have HN1 := Lib.hid hr2; have HC1 := Lib.hid hc2; clear hr2 hc2) | ((with_reducible refine gate_store 37 (.tmp 4) (.tmp 12) ?_); refine wpList_store_row rfl 37 (.tmp 4) (.tmp 12) rfl _ 0 rfl zeros8 (YL.map (Value.int .u32)) rfl (HZ2.out.chg HC1.out (by omega)) (by rw [List.length_map, lYL]; rfl) (by rw [List.length_map, lYL]; exact sz_rnum) (int_oneCell _) ?_; intro W3 hr2 hc2; have HN2 := Lib.hid hr2; have HC2 := Lib.hid hc2; clear hr2 hc2))
  have hq : W.heap.size ≤ V1.heap.size := HV1.out.size
  have HK2 := Lib.hid (nm_keeps_chg (nm_keeps_chg HKA.out HC1.out hq) HC2.out (by omega))
  have HRX := Lib.hid (HN1.out.chg HC2.out (by omega))
  have HRY := HN2
  have HRres := Lib.hid (HRres.out.keeps HK2.out)
  have HKW := Lib.hid (HKW.out.trans HK2.out)
  have hlt2 : V1.heap.size + 1 < W3.heap.size := HN2.out.lt (map_ne lYL)
  generalize V1.heap.size = q at *
  go_upto_region 3 with (first | ((with_reducible refine gate_load 37 (.tmp 3) ?_); refine wpList_load_at rfl 37 (.tmp 3) rfl _ 0 rfl (XL.map (Value.int .u32)) _ HRX.out Try.underlying37 rfl (by rw [List.length_map, lXL]; exact sz_rnum) ?_) | (go_at_call 57; refine (HB.out _).mono ?_; rintro e V2 ⟨rfl, hk1⟩; have HV2 := Lib.hid hk1; clear hk1) | ((with_reducible refine gate_store 22 (.tmp 5) (.tmp 14) ?_); refine wpList_store_row rfl 22 (.tmp 5) (.tmp 14) rfl V2.heap.size 0 rfl ((List.replicate 32 (0 : Int)).map (Value.int .u8)) (BX.map (Value.int .u8)) rfl (Row.new _ _ _ rfl) (by rw [List.length_map, lBX]; rfl) (by rw [List.length_map, lBX]; exact sz_b32') (int_oneCell _) ?_; intro W4 hr2 hc2; have HN3 := Lib.hid hr2; have HK3 := Lib.hid (nm_keeps_chg (nm_keeps_alloc HV2.out _) hc2 HV2.out.size); clear hr2 hc2))
  have hq2 : W3.heap.size ≤ V2.heap.size := HV2.out.size
  have hlt3 : V2.heap.size < W4.heap.size := HN3.out.lt (map_ne lBX)
  generalize V2.heap.size = r at *
  have HRY := Lib.hid (HRY.out.keeps HK3.out)
  have HRres := Lib.hid (HRres.out.keeps HK3.out)
  have HKW := Lib.hid (HKW.out.trans HK3.out)
  go_upto_region 4 with (fail)
  refine cu_rows1 (fun W5 hk5 hr5 hs5 => ?_)
  have hs6 : W4.heap.size = W4.heap.size := rfl
  have HRY := Lib.hid (HRY.out.keeps hk5)
  have HRres := Lib.hid (HRres.out.keeps hk5)
  have HRB := Lib.hid (HN3.out.keeps hk5)
  have HKW := Lib.hid (HKW.out.trans hk5)
  have HRO := Lib.hid (show Row W5 W4.heap.size 0 ((List.replicate 33 (0 : Int)).map (Value.int .u8)) from hr5)
  clear hk5 hr5 hs5 hs6 HN3 HRX
  generalize W4.heap.size = n at *
  have cy := HRY.out.int0 0 (by rw [lYL]; decide)
  have co := HRO.out.int0 0 (by simp)
  have fo := HRO.out.free0 0 (by simp)
  have hset := HRO.out.setInt0 0 (by simp) (2 + YL.getD 0 0 % 2)
  rw [← HP0.out, ← upto0_zero PK 33, upto0_set _ _ _ HPL.out (by decide), HP0.out] at hset
  have HSET := Lib.hid hset
  clear hset
  generalize hy9 : YL.getD 0 0 = y0 at *
  clear hy9
  have ht : y0.tmod 2 = y0 % 2 := Int.tmod_eq_emod_of_nonneg hy0.1
  have hw1 : IntKind.u32.wrap (2 + y0 % 2) = 2 + y0 % 2 := by rw [IntKind.wrap_u32]; omega
  have hw2 : IntKind.u8.wrap (2 + y0 % 2) = 2 + y0 % 2 := by rw [IntKind.wrap_u8]; omega
  go_upto_region 5 with (fail)
  refine wp_gen (fun W => Keeps w W ∧ Row W n 0 ((upto0 PK 33 1).map (Value.int .u8)) ∧ Row W (p + 1) 0 Zr ∧ Row W r 0 (BX.map (Value.int .u8))) ⟨keeps_set HKW.out (by omega) _, HSET.out, HRres.out.other (show p + 1 ≠ n by omega) _, HRB.out.other (show r ≠ n by omega) _⟩ ?_
  rintro W6 ⟨hk5, hro5, hrz5, hrb5⟩
  have HM0 := Lib.hid (show Keeps w W6 ∧ Row W6 n 0 ((upto0 PK 33 (0 + 1)).map (Value.int .u8)) ∧ Row W6 (p + 1) 0 Zr ∧ Row W6 r 0 (BX.map (Value.int .u8)) from ⟨hk5, hro5, hrz5, hrb5⟩)
  clear hk5 hro5 hrz5 hrb5 HSET cy co fo HRY HRres HRB HKW HRO ht hw1 hw2
  go_wp2
  go_loopw [7] (fun c wr => ∃ i : Nat, i ≤ 32 ∧ c = .int .i64 i ∧ Hid (Keeps w wr ∧ Row wr n 0 ((upto0 PK 33 (i + 1)).map (Value.int .u8)) ∧ Row wr (p + 1) 0 Zr ∧ Row wr r 0 (BX.map (Value.int .u8)))) (fun c _ => (32 - intOf c).toNat)
  case atStart => exact ⟨0, by omega, rfl, HM0⟩
  case round =>
    obtain ⟨i, hi, rfl, HMM⟩ := hrel
    by_cases hlt : i < 32
    · have hl9 := upto0_length PK 33 (i + 1) HPL.out (by omega)
      have c2 := HMM.out.2.2.2.int0 i (by omega)
      have c3 := HMM.out.2.1.int0 (i + 1) (by omega)
      have f3 := HMM.out.2.1.free0 (i + 1) (by rw [List.length_map]; omega)
      have hs := HMM.out.2.1.setInt0 (i + 1) (by omega) (PK.getD (i + 1) 0)
      rw [upto0_set _ _ _ HPL.out (by omega), HPS.out] at hs
      have HS := Lib.hid hs
      generalize (upto0 PK 33 (i + 1)).getD (i + 1) 0 = old at *
      generalize BX.getD i 0 = x at *
      clear hs hl9
      go_wp2
      go_roundw
      case rel => exact ⟨i + 1, by omega, by go_num, Lib.hid ⟨keeps_set HMM.out.1 (by omega) _, HS.out, HMM.out.2.2.1.other (show p + 1 ≠ n by omega) _, HMM.out.2.2.2.other (show r ≠ n by omega) _⟩⟩
      case measure => simp [intOf]; omega
    · obtain rfl : i = 32 := by omega
      rw [show 32 + 1 = 33 from rfl, upto0_full _ _ HPL.out] at HMM
      go_wp2_with (first | ((with_reducible refine gate_load 25 (.tmp 6) ?_); refine wpList_load_at rfl 25 (.tmp 6) rfl _ 0 rfl (PK.map (Value.int .u8)) _ HMM.out.2.1 Try.underlying25 rfl (by rw [List.length_map, HPL.out]; exact sz_b33) ?_) | ((with_reducible refine gate_store 25 (.tmp 2) (.tmp 31) ?_); refine wpList_store_row rfl 25 (.tmp 2) (.tmp 31) rfl _ 0 rfl Zr (PK.map (Value.int .u8)) rfl HMM.out.2.2.1 (by rw [List.length_map, HPL.out, hZr]) (by rw [List.length_map, HPL.out]; exact sz_b33) (int_oneCell _) ?_; intro W7 hr2 hc2; have HN := Lib.hid hr2; have HC := Lib.hid hc2; clear hr2 hc2))
      exact bodyPost_ret (results_cell_at (p := 2) (ty := 25) rfl _ _ (p + 1) 0 _ _ rfl HN.out Try.underlying25 rfl (by rw [List.length_map, HPL.out]; exact sz_b33)) rfl ⟨rfl, nm_keeps_chg HMM.out.1 HC.out (by omega)⟩
theorem nw8_par (y : Nat) : (nw8 y).getD 0 0 % 2 = ((y % 2 : Nat) : Int) := by
  unfold nw8
  rw [words8_getD _ _ (by decide), Int.pow_zero, Int.ediv_one]; omega
theorem rpack_any (a : J) (h : a.ok) (w : World) :
    Calls Try.prog 34 #[.agg ((ptR a).map (Value.int .u32)).toArray] w fun e w' => e = .returned (.agg ((pkB (flatR a).1 (flatR a).2).map (Value.int .u8)).toArray) ∧ Keeps w w' := by
  have := rpack_walk (ptR a) (nw8 (flatR a).1) (nw8 (flatR a).2) (toB 32 ((flatR a).1 : Int)) (ptR_len _) (nw8_len _) (nw8_len _) (toB_length _ _) (words8_range _ 0 (by decide)) w (fun W => rflat_any a h W) (fun W => rbytes_any _ W)
  rw [nw8_par] at this
  exact this
end Go.Proofs.Ytajipagpdphejaa
