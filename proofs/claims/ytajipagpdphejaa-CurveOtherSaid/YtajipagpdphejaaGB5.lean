/- The reference's minus, and Mod and Sub. No condition. | The reference's Add and Mul, as far as their call of reduce. No condition. | The reference's Mul, as far as its call of reduce. No condition. | Gates ahead of a walk's arms: each fits one kind of operation by its text alone, so that a law which does not fit fails at once. No condition. -/
import Derived.Test.YtajipagpdphejaaGB4
import Derived.Test.YtajipagpdphejaaGA0
namespace Go.Proofs.Ytajipagpdphejaa
set_option linter.unusedVariables false
set_option linter.unusedSimpArgs false
open Go Go.RowKit

set_option maxRecDepth 100000 in
set_option maxHeartbeats 4000000 in
theorem rminus_any (x y : Int) (hx : U256 x) (hy : U256 y) (w : World) :
    Calls Try.prog 60 #[.agg ((words8 x).map (Value.int .u32)).toArray, .agg ((words8 y).map (Value.int .u32)).toArray] w fun e w' => e = .returned (.agg ((words8 (x - y)).map (Value.int .u32)).toArray) ∧ Keeps w w' := by
  have HSTEP := Lib.hid (fun i L b b' t' => @MinSt.step x y i L b b' t')
  have HDONE := Lib.hid (fun L b (h : MinSt x y 8 L b) => h.done hx hy)
  have HXR := Lib.hid (words8_range x)
  have HYR := Lib.hid (words8_range y)
  have HXL := Lib.hid (words8_length x)
  have HYL := Lib.hid (words8_length y)
  have hrl := words8_length (x - y)
  generalize words8 (x - y) = RES at *
  generalize words8 x = X at *
  generalize words8 y = Y at *
  clear hx hy
  go_enter Try.func60, Try.ntmps60
  go_upto_region 2 with (fail)
  refine wp_rows4 (fun W hk hra hrb hr2 hr3 hs => ?_)
  obtain ⟨p, hp⟩ : ∃ p, p = w.heap.size := ⟨_, rfl⟩
  rw [← hp] at hra hrb hr2 hr3 hs ⊢
  have hkp : w.heap.size ≤ p := by omega
  obtain ⟨Z, hZ, hrz⟩ : ∃ Z : List Value, Z.length = 8 ∧ Row W (p + 1 + 1) 0 Z := ⟨_, rfl, hr2⟩
  have HM := Lib.hid (show RMem w W p X Y (List.replicate 8 0) Z from ⟨hk, hra, hrb, hrz, hr3⟩)
  clear hp hra hrb hr2 hr3 hrz hk hs
  go_wp2
  go_loopw [6, 7] (fun bb c wr => ∃ (i : Nat) (L : List Int) (b : Int), i ≤ 8 ∧ c = .int .i64 i ∧ bb = .int .i64 b ∧ Hid (MinSt x y i L b) ∧ Hid (RMem w wr p X Y L Z)) (fun _ c _ => (8 - intOf c).toNat)
  case atStart => exact ⟨0, _, 0, by omega, rfl, rfl, Lib.hid (MinSt.zero x y), HM⟩
  case round =>
    obtain ⟨i, L, b, hi, rfl, rfl, HS, HMM⟩ := hrel
    obtain ⟨hk9, hra9, hrb9, hrz9, hrl9⟩ := HMM.out
    clear HMM
    by_cases hlt : i < 8
    · have ca := hra9.int0 i (by rw [HXL.out]; exact hlt)
      have cb := hrb9.int0 i (by rw [HYL.out]; exact hlt)
      have hL := HS.out.len
      have cl := hrl9.drew.int0 i (by omega)
      have fl := hrl9.drew.free0 i (by rw [List.length_map]; omega)
      have hxr := HXR.out i hlt
      have hyr := HYR.out i hlt
      have b0 := HS.out.b0; have b1 := HS.out.b1
      have HST := Lib.hid (HSTEP.out i L b)
      have HSET := Lib.hid (fun t => hrl9.drew.setInt0 i (by omega) t)
      have HCL := Lib.hid cl; have HFL := Lib.hid fl
      have H1 := Lib.hid (keeps_drew1 hk9); have H2 := Lib.hid hra9.drew; have H3 := Lib.hid hrb9.drew; have H4 := Lib.hid hrz9.drew
      generalize X.getD i 0 = a at *
      generalize Y.getD i 0 = d at *
      generalize L.getD i 0 = old at *
      clear hk9 hra9 hrb9 hrz9 hrl9 cl fl hL
      have w0 : IntKind.i64.wrap (a - d) = a - d := by rw [IntKind.wrap_i64]; omega
      have w1 : IntKind.i64.wrap (a - d - b) = a - d - b := by rw [IntKind.wrap_i64]; omega
      go_wp2
      go_region
      generalize wr.drew = w1 at *
      have c1 := HCL.out
      have f1 := HFL.out
      clear HCL HFL
      have hz0 : -4294967296 ≤ a - d - b := by omega
      have hz1 : a - d - b < 4294967296 := by omega
      by_cases hneg : a - d - b < 0
      · have HNEW := Lib.hid (HST.out 1 (a - d - b + 4294967296) HS.out hlt (by omega) (by omega) (by omega) (by omega) (by omega))
        have HSET := Lib.hid (HSET.out (a - d - b + 4294967296))
        generalize a - d - b = z at *
        have hw : IntKind.u32.wrap (z + 4294967296) = z + 4294967296 := by rw [IntKind.wrap_u32]; omega
        go_wp2
        go_roundw
        case rel => exact ⟨i + 1, _, 1, by omega, by go_num, rfl, HNEW, Lib.hid ⟨keeps_set H1.out (by omega) _, H2.out.other (show p ≠ p + 1 + 1 + 1 by omega) _, H3.out.other (show p + 1 ≠ p + 1 + 1 + 1 by omega) _, H4.out.other (show p + 1 + 1 ≠ p + 1 + 1 + 1 by omega) _, HSET.out⟩⟩
        case measure => simp [intOf]; omega
      · have HNEW := Lib.hid (HST.out 0 (a - d - b) HS.out hlt (by omega) (by omega) (by omega) (by omega) (by omega))
        have HSET := Lib.hid (HSET.out (a - d - b))
        generalize a - d - b = z at *
        have hw : IntKind.u32.wrap z = z := by rw [IntKind.wrap_u32]; omega
        go_wp2
        go_roundw
        case rel => exact ⟨i + 1, _, 0, by omega, by go_num, rfl, HNEW, Lib.hid ⟨keeps_set H1.out (by omega) _, H2.out.other (show p ≠ p + 1 + 1 + 1 by omega) _, H3.out.other (show p + 1 ≠ p + 1 + 1 + 1 by omega) _, H4.out.other (show p + 1 + 1 ≠ p + 1 + 1 + 1 by omega) _, HSET.out⟩⟩
        case measure => simp [intOf]; omega
    · obtain rfl : i = 8 := by omega
      obtain rfl := HDONE.out L b HS.out
      have H2 := Lib.hid hrl9; have H4 := Lib.hid hrz9; have HK2 := Lib.hid hk9
      clear hra9 hrb9 hrz9 hrl9 hk9
      go_wp2_with (first | (refine wpList_load_at rfl 37 (.tmp 5) rfl _ 0 rfl (L.map (Value.int .u32)) _ H2.out Try.underlying37 rfl (by rw [List.length_map, hrl]; exact sz_rnum) ?_) | (refine wpList_store_row rfl 37 (.tmp 4) (.tmp 32) rfl (p + 1 + 1) 0 rfl Z (L.map (Value.int .u32)) rfl H4.out (by rw [List.length_map, hrl, hZ]) (by rw [List.length_map, hrl]; exact sz_rnum) (int_oneCell _) ?_; intro w9 hr9 hc9; have H9 := Lib.hid hr9; have HC9 := Lib.hid hc9; clear hr9 hc9))
      exact bodyPost_ret (v := .agg (L.map (Value.int .u32)).toArray) (results_cell_at (p := 4) (ty := 37) rfl _ _ (p + 1 + 1) 0 _ _ rfl H9.out Try.underlying37 rfl (by rw [List.length_map, hrl]; exact sz_rnum)) rfl ⟨rfl, nm_keeps_chg HK2.out HC9.out (by omega)⟩
theorem sz_wide : (Try.prog.info? 119).map (·.size) = some 17 := by kernel_rfl
theorem wp_rows5 {P : Program} {c : Code} {Q : Exit → Act → World → Prop} {a : Act} {w : World} {A B C D E : Array Value} {T U V X Y : TypeId}
    (h : ∀ W, Keeps w W → Row W w.heap.size 0 A.toList → Row W (w.heap.size + 1) 0 B.toList → Row W (w.heap.size + 1 + 1) 0 C.toList → Row W (w.heap.size + 1 + 1 + 1) 0 D.toList → Row W (w.heap.size + 1 + 1 + 1 + 1) 0 E.toList → W.heap.size = w.heap.size + 5 → Code.wp P c Q a W) :
    Code.wp P c Q a (((((w.alloc (.cells A T)).alloc (.cells B U)).alloc (.cells C V)).alloc (.cells D X)).alloc (.cells E Y)) := by
  have h0 := Row.new (w := w) A.toList A T (by simp)
  have h1 := Row.new (w := w.alloc (.cells A T)) B.toList B U (by simp)
  have h2 := Row.new (w := (w.alloc (.cells A T)).alloc (.cells B U)) C.toList C V (by simp)
  have h3 := Row.new (w := ((w.alloc (.cells A T)).alloc (.cells B U)).alloc (.cells C V)) D.toList D X (by simp)
  have h4 := Row.new (w := (((w.alloc (.cells A T)).alloc (.cells B U)).alloc (.cells C V)).alloc (.cells D X)) E.toList E Y (by simp)
  simp only [World.size_alloc] at h1 h2 h3 h4
  exact h _ (nm_keeps_alloc (nm_keeps_alloc (nm_keeps_alloc (nm_keeps_alloc (nm_keeps_alloc (Keeps.refl w) _) _) _) _) _) ((((h0.alloc _).alloc _).alloc _).alloc _) (((h1.alloc _).alloc _).alloc _) ((h2.alloc _).alloc _) (h3.alloc _) h4 (by simp)
/-- the memory of Add and Mul -/
def RMem5 (w wr : World) (p : Nat) (X Y M L : List Int) (Z : List Value) : Prop := Keeps w wr ∧ Row wr p 0 (X.map (Value.int .u32)) ∧ Row wr (p + 1) 0 (Y.map (Value.int .u32)) ∧ Row wr (p + 1 + 1) 0 (M.map (Value.int .u32)) ∧ Row wr (p + 1 + 1 + 1) 0 Z ∧ Row wr (p + 1 + 1 + 1 + 1) 0 (L.map (Value.int .u32))
theorem RMem5.set {w wr : World} {p : Nat} {X Y M L : List Int} {Z : List Value} (h : RMem5 w wr p X Y M L Z) (hp : w.heap.size ≤ p) {i : Nat} (hi : i < L.length) (t : Int) : RMem5 w (wr.setCell ⟨p + 1 + 1 + 1 + 1, i, none⟩ (.int .u32 t)) p X Y M (L.set i t) Z :=
  ⟨keeps_set h.1 (show w.heap.size ≤ p + 1 + 1 + 1 + 1 by omega) _, h.2.1.other (show p ≠ p + 1 + 1 + 1 + 1 by omega) _, h.2.2.1.other (show p + 1 ≠ p + 1 + 1 + 1 + 1 by omega) _, h.2.2.2.1.other (show p + 1 + 1 ≠ p + 1 + 1 + 1 + 1 by omega) _, h.2.2.2.2.1.other (show p + 1 + 1 + 1 ≠ p + 1 + 1 + 1 + 1 by omega) _, h.2.2.2.2.2.setInt0 i hi t⟩
theorem RMem5.drew {w wr : World} {p : Nat} {X Y M L : List Int} {Z : List Value} (h : RMem5 w wr p X Y M L Z) : RMem5 w wr.drew p X Y M L Z :=
  ⟨keeps_drew1 h.1, h.2.1.drew, h.2.2.1.drew, h.2.2.2.1.drew, h.2.2.2.2.1.drew, h.2.2.2.2.2.drew⟩
set_option maxRecDepth 100000 in
set_option maxHeartbeats 4000000 in
theorem raddw_any (x y : Int) (M RES : List Int) (hrl : RES.length = 8) (hM : M.length = 8) (hx : U256 x) (hy : U256 y) (w : World)
    (hF : ∀ (L : List Int) W, L.length = 17 → Digs 4294967296 L → val 4294967296 L = x + y → Keeps w W → Calls Try.prog 74 #[.agg (L.map (Value.int .u32)).toArray, .agg (M.map (Value.int .u32)).toArray] W fun e w' => e = .returned (.agg (RES.map (Value.int .u32)).toArray) ∧ Keeps W w') :
    Calls Try.prog 56 #[.agg ((words8 x).map (Value.int .u32)).toArray, .agg ((words8 y).map (Value.int .u32)).toArray, .agg (M.map (Value.int .u32)).toArray] w fun e w' => e = .returned (.agg (RES.map (Value.int .u32)).toArray) ∧ Keeps w w' := by
  have HF := Lib.hid hF
  have HSTEP := Lib.hid (fun i L b b' t' => @AddSt.step x y i L b b' t')
  have HDONE := Lib.hid (fun L b (h : AddSt x y 8 L b) => h.done hx hy)
  have HXR := Lib.hid (words8_range x)
  have HYR := Lib.hid (words8_range y)
  have HXL := Lib.hid (words8_length x)
  have HYL := Lib.hid (words8_length y)
  generalize words8 x = X at *
  generalize words8 y = Y at *
  clear hx hy hF
  go_enter Try.func56, Try.ntmps56
  go_upto_region 2 with (fail)
  refine wp_rows5 (fun W hk hra hrb hrm hr2 hr3 hs => ?_)
  obtain ⟨p, hp⟩ : ∃ p, p = w.heap.size := ⟨_, rfl⟩
  rw [← hp] at hra hrb hrm hr2 hr3 hs ⊢
  have hkp : w.heap.size ≤ p := by omega
  obtain ⟨Z, hZ, hrz⟩ : ∃ Z : List Value, Z.length = 8 ∧ Row W (p + 1 + 1 + 1) 0 Z := ⟨_, rfl, hr2⟩
  have HM := Lib.hid (show RMem5 w W p X Y M (List.replicate 17 0) Z from ⟨hk, hra, hrb, hrm, hrz, hr3⟩)
  clear hp hra hrb hrm hr2 hr3 hrz hk hs
  go_wp2
  go_loopw [8, 9] (fun bb c wr => ∃ (i : Nat) (L : List Int) (b : Int), i ≤ 8 ∧ c = .int .i64 i ∧ bb = .int .u64 b ∧ Hid (AddSt x y i L b) ∧ Hid (RMem5 w wr p X Y M L Z)) (fun _ c _ => (8 - intOf c).toNat)
  case atStart => exact ⟨0, _, 0, by omega, rfl, rfl, Lib.hid (AddSt.zero x y), HM⟩
  case round =>
    obtain ⟨i, L, b, hi, rfl, rfl, HS, HMM⟩ := hrel
    have b0 := HS.out.b0; have b1 := HS.out.b1
    have hL := HS.out.len
    by_cases hlt : i < 8
    · have ca := HMM.out.2.1.int0 i (by rw [HXL.out]; exact hlt)
      have cb := HMM.out.2.2.1.int0 i (by rw [HYL.out]; exact hlt)
      have HCL := Lib.hid (HMM.out.drew.2.2.2.2.2.int0 i (by omega))
      have HFL := Lib.hid (HMM.out.drew.2.2.2.2.2.free0 i (by rw [List.length_map]; omega))
      have hxr := HXR.out i hlt
      have hyr := HYR.out i hlt
      have HST := Lib.hid (HSTEP.out i L b)
      have HSET := Lib.hid (fun t => HMM.out.drew.set hkp (i := i) (by omega) t)
      clear HMM hL
      generalize X.getD i 0 = a at *
      generalize Y.getD i 0 = d at *
      generalize L.getD i 0 = old at *
      have w0 : IntKind.u64.wrap (a + d) = a + d := by rw [IntKind.wrap_u64]; omega
      have w1 : IntKind.u64.wrap (a + d + b) = a + d + b := by rw [IntKind.wrap_u64]; omega
      go_wp2
      go_region
      generalize wr.drew = w1 at *
      have c1 := HCL.out
      have f1 := HFL.out
      clear HCL HFL
      have hz0 : 0 ≤ a + d + b := by omega
      have hz1 : a + d + b < 8589934592 := by omega
      have HNEW := Lib.hid (HST.out ((a + d + b) / 4294967296) ((a + d + b) % 4294967296) HS.out hlt (by omega) (by omega) (by omega) (by omega) (by omega))
      have HSET := Lib.hid (HSET.out ((a + d + b) % 4294967296))
      generalize a + d + b = z at *
      have hw : IntKind.u32.wrap z = z % 4294967296 := by rw [IntKind.wrap_u32]
      go_wp2
      go_roundw
      case rel => exact ⟨i + 1, _, z / 4294967296, by omega, by go_num, by first | rfl | go_num, HNEW, HSET⟩
      case measure => simp [intOf]; omega
    · obtain rfl : i = 8 := by omega
      obtain ⟨d1, d2, d3⟩ := HDONE.out L b HS.out
      have HFW := Lib.hid (fun W' => HF.out (L.set 8 b) W' d1 d2 d3)
      have hc := HMM.out.2.2.2.2.2.int0 8 (by omega)
      have hf := HMM.out.2.2.2.2.2.free0 8 (by rw [List.length_map]; omega)
      have HSET := Lib.hid (HMM.out.set hkp (i := 8) (by omega) b)
      have HLL := Lib.hid d1
      generalize L.set 8 b = LL at *
      clear HMM d1 d2 d3
      have hw : IntKind.u32.wrap b = b := by rw [IntKind.wrap_u32]; omega
      have hw2 : IntKind.u64.wrap b = b := by rw [IntKind.wrap_u64]; omega
      generalize L.getD 8 0 = old at *
      go_upto_region 10 with (fail)
      generalize wr.setCell ⟨p + 1 + 1 + 1 + 1, 8, none⟩ (.int .u32 b) = w9 at *
      go_wp2_with (first | (refine wpList_load_at rfl 119 (.tmp 7) rfl _ 0 rfl (LL.map (Value.int .u32)) _ HSET.out.2.2.2.2.2 Try.underlying119 rfl (by rw [List.length_map, HLL.out]; exact sz_wide) ?_) | (refine wpList_load_at rfl 37 (.tmp 5) rfl _ 0 rfl (M.map (Value.int .u32)) _ HSET.out.2.2.2.1 Try.underlying37 rfl (by rw [List.length_map, hM]; exact sz_rnum) ?_) | (go_at_call 74; refine (HFW.out _ HSET.out.1).mono ?_; rintro e W2 ⟨rfl, hk2⟩; have HK2 := Lib.hid hk2; clear hk2) | (refine wpList_store_row rfl 37 (.tmp 6) (.tmp 37) rfl (p + 1 + 1 + 1) 0 rfl Z (RES.map (Value.int .u32)) rfl (HSET.out.2.2.2.2.1.keeps HK2.out) (by rw [List.length_map, hrl, hZ]) (by rw [List.length_map, hrl]; exact sz_rnum) (int_oneCell _) ?_; intro w8 hr9 hc9; have H9 := Lib.hid hr9; have HC9 := Lib.hid hc9; clear hr9 hc9))
      exact bodyPost_ret (v := .agg (RES.map (Value.int .u32)).toArray) (results_cell_at (p := 6) (ty := 37) rfl _ _ (p + 1 + 1 + 1) 0 _ _ rfl H9.out Try.underlying37 rfl (by rw [List.length_map, hrl]; exact sz_rnum)) rfl ⟨rfl, nm_keeps_chg (HSET.out.1.trans HK2.out) HC9.out (by omega)⟩
set_option maxRecDepth 100000 in
set_option maxHeartbeats 4000000 in
theorem rmulw_any (x y : Int) (M RES : List Int) (hrl : RES.length = 8) (hM : M.length = 8) (hx : U256 x) (hy : U256 y) (w : World)
    (hF : ∀ (L : List Int) W, L.length = 17 → Digs 4294967296 L → val 4294967296 L = x * y → Keeps w W → Calls Try.prog 74 #[.agg (L.map (Value.int .u32)).toArray, .agg (M.map (Value.int .u32)).toArray] W fun e w' => e = .returned (.agg (RES.map (Value.int .u32)).toArray) ∧ Keeps W w') :
    Calls Try.prog 49 #[.agg ((words8 x).map (Value.int .u32)).toArray, .agg ((words8 y).map (Value.int .u32)).toArray, .agg (M.map (Value.int .u32)).toArray] w fun e w' => e = .returned (.agg (RES.map (Value.int .u32)).toArray) ∧ Keeps w w' := by
  have HF := Lib.hid hF
  have HSTEP := Lib.hid (fun i k L c c' t' => @RMulIn.step x y i k L c c' t')
  have HX := Lib.hid hx; have HY := Lib.hid hy
  have HXR := Lib.hid (words8_range x)
  have HYR := Lib.hid (words8_range y)
  have HXL := Lib.hid (words8_length x)
  have HYL := Lib.hid (words8_length y)
  generalize words8 x = X at *
  generalize words8 y = Y at *
  clear hx hy hF
  go_enter Try.func49, Try.ntmps49
  go_upto_region 2 with (fail)
  refine wp_rows5 (fun W hk hra hrb hrm hr2 hr3 hs => ?_)
  obtain ⟨p, hp⟩ : ∃ p, p = w.heap.size := ⟨_, rfl⟩
  rw [← hp] at hra hrb hrm hr2 hr3 hs ⊢
  have hkp : w.heap.size ≤ p := by omega
  obtain ⟨Z, hZ, hrz⟩ : ∃ Z : List Value, Z.length = 8 ∧ Row W (p + 1 + 1 + 1) 0 Z := ⟨_, rfl, hr2⟩
  have HM := Lib.hid (show RMem5 w W p X Y M (List.replicate 17 0) Z from ⟨hk, hra, hrb, hrm, hrz, hr3⟩)
  clear hp hra hrb hrm hr2 hr3 hrz hk hs
  go_wp2
  go_loopw [8, 9, 10, 11] (fun c _ _ _ wr => ∃ (i : Nat) (L : List Int), i ≤ 8 ∧ c = .int .i64 i ∧ Hid (RMulSt x y i L) ∧ Hid (RMem5 w wr p X Y M L Z)) (fun c _ _ _ _ => (8 - intOf c).toNat)
  case atStart => exact ⟨0, _, by omega, rfl, Lib.hid (RMulSt.zero x y), HM⟩
  case round =>
    obtain ⟨i, L, hi, rfl, HS, HMM⟩ := hrel
    by_cases hlt : i < 8
    · have hxr := HXR.out i hlt
      have HSTEPi := Lib.hid (HSTEP.out i)
      have HCA := Lib.hid (fun w9 L9 (h : RMem5 w w9 p X Y M L9 Z) => h.2.1.int0 i (by rw [HXL.out]; exact hlt))
      generalize X.getD i 0 = a at *
      go_wp2
      go_loopw [9, 10, 11] (fun cc c _ wr => ∃ (k : Nat) (L : List Int) (cv : Int), k ≤ 8 ∧ c = .int .i64 k ∧ cc = .int .u64 cv ∧ Hid (RMulIn x y i k L cv) ∧ Hid (RMem5 w wr p X Y M L Z)) (fun _ c _ _ => (8 - intOf c).toNat)
      case atStart => exact ⟨0, _, 0, by omega, rfl, rfl, Lib.hid HS.out.inn, HMM⟩
      case round =>
        obtain ⟨k, L2, cv, hk4, rfl, rfl, HI, HM2⟩ := hrel
        have hL2 := HI.out.len
        have c0 := HI.out.c0; have c1 := HI.out.c1
        by_cases hltk : k < 8
        · have ca := HCA.out _ _ HM2.out
          have cb := HM2.out.2.2.1.int0 k (by rw [HYL.out]; exact hltk)
          have hyr := HYR.out k hltk
          have cl := HM2.out.2.2.2.2.2.int0 (i + k) (by omega)
          have HCL := Lib.hid (HM2.out.drew.2.2.2.2.2.int0 (i + k) (by omega))
          have HFL := Lib.hid (HM2.out.drew.2.2.2.2.2.free0 (i + k) (by rw [List.length_map]; omega))
          have ht := HI.out.dg.getD (i := i + k) (by omega)
          have HSTEPk := Lib.hid (HSTEPi.out k L2 cv)
          have HSET := Lib.hid (fun t => HM2.out.drew.set hkp (i := i + k) (by omega) t)
          generalize Y.getD k 0 = b at *
          generalize L2.getD (i + k) 0 = t at *
          clear HM2 hL2
          obtain ⟨s, hs0, q1, q2, q3, q4, q5, q6, q7, q8, q9, q10⟩ := mul_digit32 (a := a) (b := b) (c := cv) (t := t) hxr hyr ⟨c0, c1⟩ ht
          have HNEW := Lib.hid (HSTEPk.out (s / 4294967296) (s % 4294967296) HI.out hlt hltk q6 q7 q8 q9 q10)
          have HSET := Lib.hid (HSET.out (s % 4294967296))
          have w0 : IntKind.u64.wrap (a * b) = a * b := by rw [IntKind.wrap_u64]; omega
          have w1 : IntKind.u64.wrap (a * b + t) = a * b + t := by rw [IntKind.wrap_u64]; omega
          have w2 : IntKind.u64.wrap (a * b + t + cv) = s := by rw [IntKind.wrap_u64, hs0]; omega
          have HS0 := Lib.hid hs0
          clear hs0 q10 q1 q2 q3
          go_wp2
          go_region
          generalize wr.drew = w1 at *
          have c1 := HCL.out
          have f1 := HFL.out
          clear HCL HFL
          have hw : IntKind.u32.wrap s = s % 4294967296 := by rw [IntKind.wrap_u32]
          go_wp2
          go_roundw
          case rel => exact ⟨k + 1, _, s / 4294967296, by omega, by go_num, by first | rfl | go_num, HNEW, HSET⟩
          case measure => simp [intOf]; omega
        · obtain rfl : k = 8 := by omega
          have cl := HM2.out.2.2.2.2.2.int0 (i + 8) (by omega)
          have fl := HM2.out.2.2.2.2.2.free0 (i + 8) (by rw [List.length_map]; omega)
          have HSET := Lib.hid (HM2.out.set hkp (i := i + 8) (by omega) cv)
          have HNEW := Lib.hid (HI.out.out hlt HY.out)
          generalize L2.getD (i + 8) 0 = t at *
          have hw : IntKind.u32.wrap cv = cv := by rw [IntKind.wrap_u32]; omega
          clear HM2 hL2
          go_wp2
          go_roundw
          case rel => exact ⟨i + 1, _, by omega, by go_num, HNEW, HSET⟩
          case measure => simp [intOf]; omega
    · obtain rfl : i = 8 := by omega
      have hL := HS.out.len
      have HFW := Lib.hid (fun W' => HF.out L W' hL HS.out.dg (HS.out.done HX.out))
      have HSET := HMM
      clear HMM
      go_wp2_with (first | (refine wpList_load_at rfl 119 (.tmp 7) rfl _ 0 rfl (L.map (Value.int .u32)) _ HSET.out.2.2.2.2.2 Try.underlying119 rfl (by rw [List.length_map, hL]; exact sz_wide) ?_) | (refine wpList_load_at rfl 37 (.tmp 5) rfl _ 0 rfl (M.map (Value.int .u32)) _ HSET.out.2.2.2.1 Try.underlying37 rfl (by rw [List.length_map, hM]; exact sz_rnum) ?_) | (go_at_call 74; refine (HFW.out _ HSET.out.1).mono ?_; rintro e W2 ⟨rfl, hk2⟩; have HK2 := Lib.hid hk2; clear hk2) | (refine wpList_store_row rfl 37 (.tmp 6) (.tmp 53) rfl (p + 1 + 1 + 1) 0 rfl Z (RES.map (Value.int .u32)) rfl (HSET.out.2.2.2.2.1.keeps HK2.out) (by rw [List.length_map, hrl, hZ]) (by rw [List.length_map, hrl]; exact sz_rnum) (int_oneCell _) ?_; intro w8 hr9 hc9; have H9 := Lib.hid hr9; have HC9 := Lib.hid hc9; clear hr9 hc9))
      exact bodyPost_ret (v := .agg (RES.map (Value.int .u32)).toArray) (results_cell_at (p := 6) (ty := 37) rfl _ _ (p + 1 + 1 + 1) 0 _ _ rfl H9.out Try.underlying37 rfl (by rw [List.length_map, hrl]; exact sz_rnum)) rfl ⟨rfl, nm_keeps_chg (HSET.out.1.trans HK2.out) HC9.out (by omega)⟩
section
variable {P : Program} {ops : Array Oper} {rest : List Oper} {a : Act} {w : World} {Q : Exit → Act → World → Prop} {d : Option Tmp} {y : TypeId} {p : String} {af : Array Edge} {gd : Option (Nat × Bool)}
theorem gate_load (t : TypeId) (x : Operand) (h : wpList P ops Q (⟨d, .load t x, y, p, af, gd⟩ :: rest) a w) : wpList P ops Q (⟨d, .load t x, y, p, af, gd⟩ :: rest) a w := h
theorem gate_store (t : TypeId) (x z : Operand) (h : wpList P ops Q (⟨d, .store t x z, y, p, af, gd⟩ :: rest) a w) : wpList P ops Q (⟨d, .store t x z, y, p, af, gd⟩ :: rest) a w := h
theorem gate_bin (b : BinOp) (t t' : TypeId) (x z : Operand) (h : wpList P ops Q (⟨d, .binOp b t x z t', y, p, af, gd⟩ :: rest) a w) : wpList P ops Q (⟨d, .binOp b t x z t', y, p, af, gd⟩ :: rest) a w := h
theorem gate_build (t : TypeId) (xs : Array (Nat × Operand)) (h : wpList P ops Q (⟨d, .build t xs, y, p, af, gd⟩ :: rest) a w) : wpList P ops Q (⟨d, .build t xs, y, p, af, gd⟩ :: rest) a w := h
end
end Go.Proofs.Ytajipagpdphejaa
