/- block's words: added, taken away. -/
import Derived.Test.YtdcoiniecmeglaaDoorNumSpec2
import Derived.Test.YtdcoiniecmeglaaDoorNum
import Derived.Test.YtdcoiniecmeglaaDoorNumN
import Derived.Test.YtdcoiniecmeglaaDoorNumW
import Derived.Test.YtdcoiniecmeglaaDoorQTail
import Derived.Laws.Externs
import Derived.BigRegion
namespace Go.Proofs.YtdcoiniecmeglaaDoor
set_option linter.unusedVariables false
set_option linter.unusedSimpArgs false
open Go Go.RowKit

/-- the model's row for Sub64 -/
def sub64Entry : Array Value → Sem Value := fun args => do
  let (x, y, b) ← Extern.MathBitsCarry.three "Sub64" args
  pure (Extern.MathBitsCarry.pair ((x + Extern.MathBitsCarry.m64 - y - b) % Extern.MathBitsCarry.m64) (if x < y + b then 1 else 0))
theorem results_cell_tmpB {P : Program} {fn : Func} {p t : Tmp} {ty : TypeId} (h : fn.results = #[.cell p ty, .tmp t]) (tmps : Array Value) (w : World) (g off : Nat) (cs : List Value) (d : TypeDesc) (u : Value) (hu' : tmps.getD t undef = u)
    (hp : tmps.getD p undef = .pointer (some ⟨g, off, none⟩)) (hg : Row w g off cs)
    (hu : P.underlying ty = some d) (hd : (match d with | .struct _ | .array _ _ => true | _ => false) = true) (hi : (P.info? ty).map (·.size) = some cs.length) :
    (results fn tmps).run P w = .ok (.tuple #[.agg cs.toArray, u]) w := by
  have hp' : tmps[p]?.getD undef = .pointer (some ⟨g, off, none⟩) := by simpa using hp
  have ht' : tmps[t]?.getD undef = u := by simpa using hu'
  simp [results, h, hp', ht', asAddr, run_loadVar_at w g off ty cs d hg hu hd hi]
theorem add64_run (x y c : Int) (hx : 0 ≤ x) (hy : 0 ≤ y) (hc : 0 ≤ c) (hc1 : c ≤ 1) (W : World) :
    (callFunc 34 #[.int .u64 x, .int .u64 y, .int .u64 c]).run Tryd.prog W = .ok (.value (.tuple #[.int .u64 ((x + y + c) % 18446744073709551616), .int .u64 ((x + y + c) / 18446744073709551616)])) W := by
  rw [run_callFunc_extern Tryd.func34 (by kernel_rfl) (by kernel_rfl) (by kernel_rfl) (e := add64Entry) (by kernel_rfl), run_add64 x y c hx hy hc hc1]
  rfl
theorem sub64_run (x y c : Int) (hx : 0 ≤ x) (hx1 : x < 18446744073709551616) (hy : 0 ≤ y) (hy1 : y < 18446744073709551616) (hc : 0 ≤ c) (hc1 : c ≤ 1) (W : World) :
    (callFunc 53 #[.int .u64 x, .int .u64 y, .int .u64 c]).run Tryd.prog W = .ok (.value (.tuple #[.int .u64 ((x - y - c) % 18446744073709551616), .int .u64 (-((x - y - c) / 18446744073709551616))])) W := by
  obtain ⟨X, rfl⟩ := Int.eq_ofNat_of_zero_le hx
  obtain ⟨Y, rfl⟩ := Int.eq_ofNat_of_zero_le hy
  obtain ⟨k, rfl⟩ := Int.eq_ofNat_of_zero_le hc
  have key : (sub64Entry #[.int .u64 (X : Int), .int .u64 (Y : Int), .int .u64 (k : Int)]).run Tryd.prog W =
      .ok (Extern.MathBitsCarry.pair ((X + Extern.MathBitsCarry.m64 - Y - k) % Extern.MathBitsCarry.m64) (if X < Y + k then 1 else 0)) W := by
    have : k = 0 ∨ k = 1 := by omega
    rcases this with rfl | rfl <;> rfl
  rw [run_callFunc_extern Tryd.func53 (by kernel_rfl) (by kernel_rfl) (by kernel_rfl) (e := sub64Entry) (by kernel_rfl), key]
  simp only [Extern.MathBitsCarry.pair, Extern.MathBitsCarry.m64, Result.andThen_ok]
  have e1 : Int.ofNat ((X + 2 ^ 64 - Y - k) % 2 ^ 64) = ((X : Int) - Y - k) % 18446744073709551616 := by
    show (((X + 2 ^ 64 - Y - k) % 2 ^ 64 : Nat) : Int) = _
    omega
  have e2 : Int.ofNat (if X < Y + k then 1 else 0) = -(((X : Int) - Y - k) / 18446744073709551616) := by
    show ((if X < Y + k then 1 else 0 : Nat) : Int) = _
    split <;> omega
  rw [e1, e2]
/-- the words once i of them are done -/
def mixW (r u : Int) (i : Nat) : List Int := (words r).take i ++ (words u).drop i
theorem mixW_zero (r u : Int) : mixW r u 0 = words u := rfl
theorem mixW_full (r u : Int) : mixW r u 4 = words r := rfl
theorem mixW_length (r u : Int) (i : Nat) (h : i ≤ 4) : (mixW r u i).length = 4 := by simp [mixW, words_length]; omega
theorem mixW_getD (r u : Int) (i : Nat) (h : i < 4) : (mixW r u i).getD i 0 = (words u).getD i 0 := by
  have : i = 0 ∨ i = 1 ∨ i = 2 ∨ i = 3 := by omega
  rcases this with rfl | rfl | rfl | rfl <;> rfl
theorem mixW_set (r u : Int) (i : Nat) (h : i < 4) : (mixW r u i).set i ((words r).getD i 0) = mixW r u (i + 1) := by
  have : i = 0 ∨ i = 1 ∨ i = 2 ∨ i = 3 := by omega
  rcases this with rfl | rfl | rfl | rfl <;> rfl
theorem keeps_drew1 {w W : World} (h : Keeps w W) : Keeps w W.drew := Below.drew h
set_option maxRecDepth 100000 in
set_option maxHeartbeats 4000000 in
theorem wadd_any (u v : Int) (w : World) :
    Calls Tryd.prog 24 #[.agg ((words u).map (Value.int .u64)).toArray, .agg ((words v).map (Value.int .u64)).toArray] w fun e w' => e = .returned (.tuple #[.agg ((words (u + v)).map (Value.int .u64)).toArray, .int .u64 (wcarry u v 4)]) ∧ Keeps w w' := by
  have hset := mixW_set (u + v) u
  have hget := mixW_getD (u + v) u
  have hlen := mixW_length (u + v) u
  have hzero := mixW_zero (u + v) u
  have hfull := mixW_full (u + v) u
  have hstep := wcarry_step u v
  have hr1 := words_range u
  have hr2 := words_range v
  have hvl := words_length v
  have hrl := words_length (u + v)
  generalize mixW (u + v) u = M at *
  generalize words u = U at *
  generalize words v = V at *
  generalize words (u + v) = R at *
  have HSET := Lib.hid hset; have HGET := Lib.hid hget; have HLEN := Lib.hid hlen; have HZERO := Lib.hid hzero; have HFULL := Lib.hid hfull; have HSTEP := Lib.hid hstep; have HR1 := Lib.hid hr1; have HR2 := Lib.hid hr2; have HVL := Lib.hid hvl; have HRL := Lib.hid hrl
  have HC0 := Lib.hid (wcarry_zero u v)
  have HCR := Lib.hid (wcarry_range u v)
  clear hset hget hlen hzero hfull hstep hr1 hr2 hvl hrl
  generalize wcarry u v = C at *
  go_enter Tryd.func24, Tryd.ntmps24
  go_upto_region 1 with (fail)
  refine wp_rows3 (fun W hk hra hrb hr2 hs => ?_)
  obtain ⟨p, hp⟩ : ∃ p, p = w.heap.size := ⟨_, rfl⟩
  rw [← hp] at hra hrb hr2 hs ⊢
  have hkp : w.heap.size ≤ p := by omega
  obtain ⟨Z, hZ, hrz⟩ : ∃ Z : List Value, Z.length = 4 ∧ Row W (p + 1 + 1) 0 Z := ⟨_, rfl, hr2⟩
  have HRA := Lib.hid (show Row W p 0 ((M 0).map (Value.int .u64)) by rw [HZERO.out]; exact hra); have HRB := Lib.hid (show Row W (p + 1) 0 (V.map (Value.int .u64)) from hrb); have HRZ := Lib.hid hrz; have HK := Lib.hid hk
  clear hp hra hrb hr2 hrz hk
  go_wp2
  go_loopw [6, 8] (fun cc c wr => ∃ i : Nat, i ≤ 4 ∧ c = .int .i64 i ∧ cc = .int .u64 (C i) ∧ Keeps w wr ∧ Row wr p 0 ((M i).map (Value.int .u64)) ∧ Row wr (p + 1) 0 (V.map (Value.int .u64)) ∧ Row wr (p + 1 + 1) 0 Z) (fun _ c _ => (4 - intOf c).toNat)
  case atStart => exact ⟨0, by omega, rfl, by rw [HC0.out], HK.out, HRA.out, HRB.out, HRZ.out⟩
  case round =>
    obtain ⟨i, hi, rfl, rfl, hk, hra, hrb, hrz⟩ := hrel
    by_cases hlt : i < 4
    · have c1 := hra.int0 i (by rw [HLEN.out i hi]; exact hlt)
      have f1 := hra.free0 i (by rw [List.length_map, HLEN.out i hi]; exact hlt)
      have c2 := hrb.int0 i (by rw [HVL.out]; exact hlt)
      rw [HGET.out i hlt] at c1
      obtain ⟨s1, s2⟩ := HSTEP.out i hlt
      obtain ⟨x0, x1⟩ := HR1.out i hlt
      obtain ⟨y0, y1⟩ := HR2.out i hlt
      obtain ⟨z0, z1⟩ := HCR.out i
      have hset := hra.setInt0 i (by rw [HLEN.out i hi]; exact hlt) (R.getD i 0)
      rw [HSET.out i hlt, ← s2] at hset
      have HS1 := Lib.hid s1
      generalize U.getD i 0 = x at *
      generalize V.getD i 0 = y at *
      generalize C i = z at *
      have hadd := add64_run x y z x0 y0 z0 z1
      have HSET2 := Lib.hid hset; have H1 := Lib.hid hrb; have H2 := Lib.hid hrz; have HK2 := Lib.hid hk
      clear hset hra hrb hrz hk s1 s2
      go_wp2
      go_region
      go_wp2
      go_roundw
      case rel => exact ⟨i + 1, by omega, by go_num, by rw [← HS1.out], keeps_drew1 (keeps_set HK2.out (by omega) _), by exact HSET2.out, (H1.out.other (by simp) _).drew, (H2.out.other (by simp; omega) _).drew⟩
      case measure => simp [intOf]; omega
    · obtain rfl : i = 4 := by omega
      rw [HFULL.out] at hra
      have H2 := Lib.hid hrz; have H3 := Lib.hid hra; have HK2 := Lib.hid hk
      clear hra hrb hrz hk
      have hl9 := HRL.out
      go_wp2_with (first | (refine wpList_load_at rfl 52 (.tmp 2) rfl _ 0 rfl (R.map (Value.int .u64)) _ H3.out Tryd.underlying52 rfl (by rw [List.length_map, hl9]; exact sz_words) ?_) | (refine wpList_store_row rfl 52 (.tmp 4) (.tmp 25) rfl (p + 1 + 1) 0 rfl Z (R.map (Value.int .u64)) rfl H2.out (by rw [List.length_map, hl9, hZ]) (by rw [List.length_map, hl9]; exact sz_words) (int_oneCell _) ?_; intro w9 hr9 hc9; have H9 := Lib.hid hr9; have HC9 := Lib.hid hc9; clear hr9 hc9))
      exact bodyPost_ret (v := .tuple #[.agg (R.map (Value.int .u64)).toArray, .int .u64 (C 4)]) (results_cell_tmpB (p := 4) (t := 5) (ty := 52) rfl _ _ (p + 1 + 1) 0 _ _ _ rfl rfl H9.out Tryd.underlying52 rfl (by rw [List.length_map, hl9]; exact sz_words)) rfl ⟨rfl, keeps_chg HK2.out HC9.out (by omega)⟩
set_option maxRecDepth 100000 in
set_option maxHeartbeats 4000000 in
theorem wsub_any (u v : Int) (w : World) :
    Calls Tryd.prog 46 #[.agg ((words u).map (Value.int .u64)).toArray, .agg ((words v).map (Value.int .u64)).toArray] w fun e w' => e = .returned (.tuple #[.agg ((words (u - v)).map (Value.int .u64)).toArray, .int .u64 (wborrow u v 4)]) ∧ Keeps w w' := by
  have hset := mixW_set (u - v) u
  have hget := mixW_getD (u - v) u
  have hlen := mixW_length (u - v) u
  have hzero := mixW_zero (u - v) u
  have hfull := mixW_full (u - v) u
  have hstep := wborrow_step u v
  have hr1 := words_range u
  have hr2 := words_range v
  have hvl := words_length v
  have hrl := words_length (u - v)
  generalize mixW (u - v) u = M at *
  generalize words u = U at *
  generalize words v = V at *
  generalize words (u - v) = R at *
  have HSET := Lib.hid hset; have HGET := Lib.hid hget; have HLEN := Lib.hid hlen; have HZERO := Lib.hid hzero; have HFULL := Lib.hid hfull; have HSTEP := Lib.hid hstep; have HR1 := Lib.hid hr1; have HR2 := Lib.hid hr2; have HVL := Lib.hid hvl; have HRL := Lib.hid hrl
  have HC0 := Lib.hid (wborrow_zero u v)
  have HCR := Lib.hid (wborrow_range u v)
  clear hset hget hlen hzero hfull hstep hr1 hr2 hvl hrl
  generalize wborrow u v = C at *
  go_enter Tryd.func46, Tryd.ntmps46
  go_upto_region 1 with (fail)
  refine wp_rows3 (fun W hk hra hrb hr2 hs => ?_)
  obtain ⟨p, hp⟩ : ∃ p, p = w.heap.size := ⟨_, rfl⟩
  rw [← hp] at hra hrb hr2 hs ⊢
  have hkp : w.heap.size ≤ p := by omega
  obtain ⟨Z, hZ, hrz⟩ : ∃ Z : List Value, Z.length = 4 ∧ Row W (p + 1 + 1) 0 Z := ⟨_, rfl, hr2⟩
  have HRA := Lib.hid (show Row W p 0 ((M 0).map (Value.int .u64)) by rw [HZERO.out]; exact hra); have HRB := Lib.hid (show Row W (p + 1) 0 (V.map (Value.int .u64)) from hrb); have HRZ := Lib.hid hrz; have HK := Lib.hid hk
  clear hp hra hrb hr2 hrz hk
  go_wp2
  go_loopw [6, 8] (fun cc c wr => ∃ i : Nat, i ≤ 4 ∧ c = .int .i64 i ∧ cc = .int .u64 (C i) ∧ Keeps w wr ∧ Row wr p 0 ((M i).map (Value.int .u64)) ∧ Row wr (p + 1) 0 (V.map (Value.int .u64)) ∧ Row wr (p + 1 + 1) 0 Z) (fun _ c _ => (4 - intOf c).toNat)
  case atStart => exact ⟨0, by omega, rfl, by rw [HC0.out], HK.out, HRA.out, HRB.out, HRZ.out⟩
  case round =>
    obtain ⟨i, hi, rfl, rfl, hk, hra, hrb, hrz⟩ := hrel
    by_cases hlt : i < 4
    · have c1 := hra.int0 i (by rw [HLEN.out i hi]; exact hlt)
      have f1 := hra.free0 i (by rw [List.length_map, HLEN.out i hi]; exact hlt)
      have c2 := hrb.int0 i (by rw [HVL.out]; exact hlt)
      rw [HGET.out i hlt] at c1
      obtain ⟨s1, s2⟩ := HSTEP.out i hlt
      obtain ⟨x0, x1⟩ := HR1.out i hlt
      obtain ⟨y0, y1⟩ := HR2.out i hlt
      obtain ⟨z0, z1⟩ := HCR.out i
      have hset := hra.setInt0 i (by rw [HLEN.out i hi]; exact hlt) (R.getD i 0)
      rw [HSET.out i hlt, ← s2] at hset
      have HS1 := Lib.hid s1
      generalize U.getD i 0 = x at *
      generalize V.getD i 0 = y at *
      generalize C i = z at *
      have hadd := sub64_run x y z x0 x1 y0 y1 z0 z1
      have HSET2 := Lib.hid hset; have H1 := Lib.hid hrb; have H2 := Lib.hid hrz; have HK2 := Lib.hid hk
      clear hset hra hrb hrz hk s1 s2
      go_wp2
      go_region
      go_wp2
      go_roundw
      case rel => exact ⟨i + 1, by omega, by go_num, by rw [← HS1.out], keeps_drew1 (keeps_set HK2.out (by omega) _), by exact HSET2.out, (H1.out.other (by simp) _).drew, (H2.out.other (by simp; omega) _).drew⟩
      case measure => simp [intOf]; omega
    · obtain rfl : i = 4 := by omega
      rw [HFULL.out] at hra
      have H2 := Lib.hid hrz; have H3 := Lib.hid hra; have HK2 := Lib.hid hk
      clear hra hrb hrz hk
      have hl9 := HRL.out
      go_wp2_with (first | (refine wpList_load_at rfl 52 (.tmp 2) rfl _ 0 rfl (R.map (Value.int .u64)) _ H3.out Tryd.underlying52 rfl (by rw [List.length_map, hl9]; exact sz_words) ?_) | (refine wpList_store_row rfl 52 (.tmp 4) (.tmp 25) rfl (p + 1 + 1) 0 rfl Z (R.map (Value.int .u64)) rfl H2.out (by rw [List.length_map, hl9, hZ]) (by rw [List.length_map, hl9]; exact sz_words) (int_oneCell _) ?_; intro w9 hr9 hc9; have H9 := Lib.hid hr9; have HC9 := Lib.hid hc9; clear hr9 hc9))
      exact bodyPost_ret (v := .tuple #[.agg (R.map (Value.int .u64)).toArray, .int .u64 (C 4)]) (results_cell_tmpB (p := 4) (t := 5) (ty := 52) rfl _ _ (p + 1 + 1) 0 _ _ _ rfl rfl H9.out Tryd.underlying52 rfl (by rw [List.length_map, hl9]; exact sz_words)) rfl ⟨rfl, keeps_chg HK2.out HC9.out (by omega)⟩
end Go.Proofs.YtdcoiniecmeglaaDoor
