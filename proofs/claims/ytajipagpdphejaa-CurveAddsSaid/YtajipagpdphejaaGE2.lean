/- Both AddKey. No condition. -/
import Derived.Test.YtajipagpdphejaaGE1
import Derived.Test.YtajipagpdphejaaGB6
namespace Go.Proofs.Ytajipagpdphejaa
set_option linter.unusedVariables false
set_option linter.unusedSimpArgs false
open Go Go.RowKit Cv

def zeroL32 : List Int := List.replicate 32 0
/-- a key and a number: the sum's bytes, and the error -/
def addKV (x t : Int) : List Int × Int := if keyB x = true ∧ t < NV then (if (x + t) % NV = 0 then (zeroL32, 7) else (toB 32 ((x + t) % NV), 0)) else (zeroL32, 1)
theorem addKV_len (x t : Int) : (addKV x t).1.length = 32 := by
  unfold addKV
  split
  · split
    · rfl
    · exact toB_length _ _
  · rfl
theorem zeroL32_bytes : Bytes zeroL32 := fun y hy => by
  rw [(List.mem_replicate.1 (show y ∈ List.replicate 32 0 from hy)).2]
  exact ⟨by omega, by omega⟩
theorem addKV_bytes (x t : Int) : Bytes (addKV x t).1 := by
  unfold addKV
  split
  · split
    · exact zeroL32_bytes
    · exact toB_bytes _ _
  · exact zeroL32_bytes
/-- the cases of an addition of keys -/
theorem addKV_cases (x t : Int) : (keyB x = false ∧ addKV x t = (zeroL32, 1)) ∨ (keyB x = true ∧ ¬ t < NV ∧ addKV x t = (zeroL32, 1)) ∨ (keyB x = true ∧ t < NV ∧ (x + t) % NV = 0 ∧ addKV x t = (zeroL32, 7)) ∨ (keyB x = true ∧ t < NV ∧ ¬ (x + t) % NV = 0 ∧ addKV x t = (toB 32 ((x + t) % NV), 0)) := by
  unfold addKV
  by_cases h1 : keyB x = true
  · by_cases h2 : t < NV
    · by_cases h3 : (x + t) % NV = 0
      · exact .inr (.inr (.inl ⟨h1, h2, h3, by rw [if_pos ⟨h1, h2⟩, if_pos h3]⟩))
      · exact .inr (.inr (.inr ⟨h1, h2, h3, by rw [if_pos ⟨h1, h2⟩, if_neg h3]⟩))
    · exact .inr (.inl ⟨h1, h2, by rw [if_neg (fun h => h2 h.2)]⟩)
  · exact .inl ⟨by simpa using h1, by rw [if_neg (fun h => h1 h.1)]⟩
set_option maxRecDepth 100000 in
set_option maxHeartbeats 8000000 in
theorem addkey_walk (K B X T S BS RES : List Int) (kb lt z : Bool) (er : Int) (lK : K.length = 32) (lB : B.length = 32) (lX : X.length = 4) (lT : T.length = 4) (lS : S.length = 4) (lR : RES.length = 32) (w : World)
    (hKey : ∀ g W, Row W g 0 gCells → Calls Try.prog 29 #[.pointer (some ⟨g, 0, none⟩), .agg (K.map (Value.int .u8)).toArray] W fun e w' => e = .returned (.tuple #[.agg (X.map (Value.int .u64)).toArray, .bool kb]) ∧ Keeps W w')
    (hNum : ∀ v W, Rd W 1 v 32 (B.map (Value.int .u8)) → Calls Try.prog 44 #[v] W fun e w' => e = .returned (.agg (T.map (Value.int .u64)).toArray) ∧ Keeps W w')
    (hBel : ∀ g W, Row W g 0 gCells → Calls Try.prog 52 #[.pointer (some ⟨g, 7, none⟩), .agg (T.map (Value.int .u64)).toArray] W fun e w' => e = .returned (.bool lt) ∧ Keeps W w')
    (hcase : (kb = false ∧ RES = zeroL32 ∧ er = 1) ∨ (kb = true ∧ lt = false ∧ RES = zeroL32 ∧ er = 1) ∨ (kb = true ∧ lt = true ∧
      (∀ g W, Row W g 0 gCells → Calls Try.prog 53 #[.pointer (some ⟨g, 7, none⟩), .agg (X.map (Value.int .u64)).toArray, .agg (T.map (Value.int .u64)).toArray] W fun e w' => e = .returned (.agg (S.map (Value.int .u64)).toArray) ∧ Keeps W w') ∧
      (∀ W, Calls Try.prog 54 #[.agg (S.map (Value.int .u64)).toArray] W fun e w' => e = .returned (.bool z) ∧ Keeps W w') ∧
      ((z = true ∧ RES = zeroL32 ∧ er = 7) ∨ (z = false ∧ RES = BS ∧ er = 0 ∧ ∀ W, Calls Try.prog 55 #[.agg (S.map (Value.int .u64)).toArray] W fun e w' => e = .returned (.agg (BS.map (Value.int .u8)).toArray) ∧ Keeps W w')))) :
    Calls Try.prog 19 #[.agg (K.map (Value.int .u8)).toArray, .agg (B.map (Value.int .u8)).toArray] w fun e w' => e = .returned (.tuple #[.agg (RES.map (Value.int .u8)).toArray, .int .i64 er]) ∧ Keeps w w' := by
  have HKEY := Lib.hid hKey; have HNUM := Lib.hid hNum; have HBEL := Lib.hid hBel; have HCASE := Lib.hid hcase; have HCV := Lib.hid curve_any
  clear hKey hNum hBel hcase
  go_enter Try.func19, Try.ntmps19
  go_upto_region 1 with (fail)
  refine wp_rows3 (fun W hk hra hrb hrc hs => ?_)
  obtain ⟨p, hp⟩ : ∃ p, p = w.heap.size := ⟨_, rfl⟩
  rw [← hp] at hra hrb hrc hs ⊢
  have hkp : w.heap.size ≤ p := by omega
  obtain ⟨Zr, hZr, hrz⟩ : ∃ Zr : List Value, Zr.length = 32 ∧ Row W (p + 1 + 1) 0 Zr := ⟨_, rfl, hrc⟩
  have HRK := Lib.hid (show Row W p 0 (K.map (Value.int .u8)) from hra); have HRB := Lib.hid (show Row W (p + 1) 0 (B.map (Value.int .u8)) from hrb); have HKW := Lib.hid hk; have HRres := Lib.hid hrz
  have hpW : p + 1 < W.heap.size := by omega
  clear hp hk hra hrb hrc hrz hs
  go_upto_region 2 with (go_at_call 28; refine (HCV.out _).mono ?_; rintro e W1 ⟨g, rfl, hk1, hgg, hrow⟩; have HK1 := Lib.hid hk1; have HROW := Lib.hid hrow; clear hk1 hrow)
  have HRK := Lib.hid (HRK.out.keeps HK1.out)
  go_upto_region 3 with (first | ((with_reducible refine gate_load 22 (.tmp 2) ?_); refine wpList_load_at rfl 22 (.tmp 2) rfl _ 0 rfl (K.map (Value.int .u8)) _ HRK.out Try.underlying22 rfl (by rw [List.length_map, lK]; exact sz_b32') ?_) | (go_at_call 29; refine (HKEY.out g _ HROW.out).mono ?_; rintro e W2 ⟨rfl, hk2⟩; have HK2 := Lib.hid hk2; clear hk2) | ((with_reducible refine gate_store 69 (.tmp 7) (.tmp 16) ?_); refine wpList_store_row rfl 69 (.tmp 7) (.tmp 16) rfl W2.heap.size 0 rfl zeros4 (X.map (Value.int .u64)) rfl (Row.new _ _ _ rfl) (by rw [List.length_map, lX]; rfl) (by rw [List.length_map, lX]; exact sz_cnum) (int_oneCell _) ?_; intro W3 hr2 hc2; have HRX := Lib.hid hr2; have HK3 := Lib.hid (nm_keeps_chg (nm_keeps_alloc HK2.out _) hc2 HK2.out.size); clear hr2 hc2))
  generalize W2.heap.size = q at *
  have HROW := Lib.hid (HROW.out.keeps HK3.out)
  have HKA := Lib.hid (HK1.out.trans HK3.out)
  have HRres := Lib.hid (HRres.out.keeps HKA.out); have HRB := Lib.hid (HRB.out.keeps HKA.out)
  have HKW := Lib.hid (HKW.out.trans HKA.out)
  have hpW3 : p + 1 < W3.heap.size := Nat.lt_of_lt_of_le hpW HKA.out.size
  clear HKA HK3 HK2 HK1
  go_upto_region 4 with (first | (go_at_call 44; refine (HNUM.out _ _ (Rd.of_row HRB.out (by simp [lB]) hpW3 (by omega) (by unfold maxLen; omega))).mono ?_; rintro e W4 ⟨rfl, hk2⟩; have HK4 := Lib.hid hk2; clear hk2) | ((with_reducible refine gate_store 69 (.tmp 9) (.tmp 19) ?_); refine wpList_store_row rfl 69 (.tmp 9) (.tmp 19) rfl W4.heap.size 0 rfl zeros4 (T.map (Value.int .u64)) rfl (Row.new _ _ _ rfl) (by rw [List.length_map, lT]; rfl) (by rw [List.length_map, lT]; exact sz_cnum) (int_oneCell _) ?_; intro W5 hr2 hc2; have HRT := Lib.hid hr2; have HK5 := Lib.hid (nm_keeps_chg (nm_keeps_alloc HK4.out _) hc2 HK4.out.size); clear hr2 hc2))
  generalize W4.heap.size = r at *
  have HROW := Lib.hid (HROW.out.keeps HK5.out)
  have HRres := Lib.hid (HRres.out.keeps HK5.out); have HRX := Lib.hid (HRX.out.keeps HK5.out)
  have HKW := Lib.hid (HKW.out.trans HK5.out)
  clear HK5 HK4 HRB HRK
  rcases HCASE.out with ⟨rfl, rfl, rfl⟩ | ⟨rfl, rfl, rfl, rfl⟩ | ⟨rfl, rfl, hAdd, hZero, hc2⟩
  · refine wp_region_keep 9 [] [0, 1, 2, 3, 4, 5, 6, 7, 8] (fun _ => []) (by kernel_rfl) (by kernel_rfl) (by intro i hi; cases hi) ?_
    refine keep_pure (o := ?_) (v := ?_) ?_ ?_ ?_ ?_
    rotate_left 2
    focus (simp only [List.getElem?_toArray, List.getElem?_cons_succ, List.getElem?_cons_zero]; exact rfl)
    focus rfl
    focus ((intro wS hS; go_simp) <;> with_reducible rfl)
    try simp only [Act.put, List.setIfInBounds_toArray, List.set_cons_zero, List.set_cons_succ]
    refine keep_pure (o := ?_) (v := ?_) ?_ ?_ ?_ ?_
    rotate_left 2
    focus (simp only [List.getElem?_toArray, List.getElem?_cons_succ, List.getElem?_cons_zero]; exact rfl)
    focus rfl
    focus ((intro wS hS; go_simp) <;> with_reducible rfl)
    try simp only [Act.put, List.setIfInBounds_toArray, List.set_cons_zero, List.set_cons_succ]
    refine keep_pure (o := ?_) (v := ?_) ?_ ?_ ?_ ?_
    rotate_left 2
    focus (simp only [List.getElem?_toArray, List.getElem?_cons_succ, List.getElem?_cons_zero]; exact rfl)
    focus rfl
    focus ((intro wS hS; go_simp) <;> with_reducible rfl)
    try simp only [Act.put, List.setIfInBounds_toArray, List.set_cons_zero, List.set_cons_succ]
    refine keep_skip (o := ?_) ?_ ?_ ?_
    rotate_left 1
    focus (simp only [List.getElem?_toArray, List.getElem?_cons_succ, List.getElem?_cons_zero]; exact rfl)
    focus rfl
    try simp only [Act.put, List.setIfInBounds_toArray, List.set_cons_zero, List.set_cons_succ]
    refine keep_skip (o := ?_) ?_ ?_ ?_
    rotate_left 1
    focus (simp only [List.getElem?_toArray, List.getElem?_cons_succ, List.getElem?_cons_zero]; exact rfl)
    focus rfl
    try simp only [Act.put, List.setIfInBounds_toArray, List.set_cons_zero, List.set_cons_succ]
    refine keep_skip (o := ?_) ?_ ?_ ?_
    rotate_left 1
    focus (simp only [List.getElem?_toArray, List.getElem?_cons_succ, List.getElem?_cons_zero]; exact rfl)
    focus rfl
    try simp only [Act.put, List.setIfInBounds_toArray, List.set_cons_zero, List.set_cons_succ]
    refine keep_skip (o := ?_) ?_ ?_ ?_
    rotate_left 1
    focus (simp only [List.getElem?_toArray, List.getElem?_cons_succ, List.getElem?_cons_zero]; exact rfl)
    focus rfl
    try simp only [Act.put, List.setIfInBounds_toArray, List.set_cons_zero, List.set_cons_succ]
    refine keep_skip (o := ?_) ?_ ?_ ?_
    rotate_left 1
    focus (simp only [List.getElem?_toArray, List.getElem?_cons_succ, List.getElem?_cons_zero]; exact rfl)
    focus rfl
    try simp only [Act.put, List.setIfInBounds_toArray, List.set_cons_zero, List.set_cons_succ]
    refine keep_skip (o := ?_) ?_ ?_ ?_
    rotate_left 1
    focus (simp only [List.getElem?_toArray, List.getElem?_cons_succ, List.getElem?_cons_zero]; exact rfl)
    focus rfl
    try simp only [Act.put, List.setIfInBounds_toArray, List.set_cons_zero, List.set_cons_succ]
    refine keep_nil ?_
    intro GG V4 hk1 hG
    clear hG
    simp only [putsA, dstAt, Act.put, ptrV, List.drop_succ_cons, List.drop_zero, List.getElem?_toArray, List.getElem?_cons_succ, List.getElem?_cons_zero, Option.bind_some, List.setIfInBounds_toArray, List.set_cons_zero, List.set_cons_succ]
    have HRres := Lib.hid (HRres.out.keeps hk1)
    have HKW := Lib.hid (HKW.out.trans hk1)
    clear hk1
    go_wp2_with ((with_reducible refine gate_store 22 (.tmp 4) (.tmp 30) ?_); refine wpList_store_row rfl 22 (.tmp 4) (.tmp 30) rfl _ 0 rfl Zr (zeroL32.map (Value.int .u8)) rfl HRres.out (by rw [hZr]; rfl) sz_b32' (int_oneCell _) ?_; intro W8 hr2 hc2; have HN := Lib.hid hr2; have HC := Lib.hid hc2; clear hr2 hc2)
    exact bodyPost_ret (results_cell_tmpB (p := 4) (t := 5) (ty := 22) rfl _ _ (p + 1 + 1) 0 _ _ _ rfl rfl HN.out Try.underlying22 rfl sz_b32') rfl ⟨rfl, nm_keeps_chg HKW.out HC.out (by omega)⟩
  · refine wp_region_keep 9 [] [0, 1, 2, 3, 4, 5, 6, 7, 8] (fun _ => []) (by kernel_rfl) (by kernel_rfl) (by intro i hi; cases hi) ?_
    refine keep_pure (o := ?_) (v := ?_) ?_ ?_ ?_ ?_
    rotate_left 2
    focus (simp only [List.getElem?_toArray, List.getElem?_cons_succ, List.getElem?_cons_zero]; exact rfl)
    focus rfl
    focus ((intro wS hS; go_simp) <;> with_reducible rfl)
    try simp only [Act.put, List.setIfInBounds_toArray, List.set_cons_zero, List.set_cons_succ]
    refine keep_pure (o := ?_) (v := ?_) ?_ ?_ ?_ ?_
    rotate_left 2
    focus (simp only [List.getElem?_toArray, List.getElem?_cons_succ, List.getElem?_cons_zero]; exact rfl)
    focus rfl
    focus ((intro wS hS; go_simp) <;> with_reducible rfl)
    try simp only [Act.put, List.setIfInBounds_toArray, List.set_cons_zero, List.set_cons_succ]
    refine keep_pure (o := ?_) (v := ?_) ?_ ?_ ?_ ?_
    rotate_left 2
    focus (simp only [List.getElem?_toArray, List.getElem?_cons_succ, List.getElem?_cons_zero]; exact rfl)
    focus rfl
    focus ((intro wS hS; go_simp) <;> with_reducible rfl)
    try simp only [Act.put, List.setIfInBounds_toArray, List.set_cons_zero, List.set_cons_succ]
    refine keep_pure (o := ?_) (v := ?_) ?_ ?_ ?_ ?_
    rotate_left 2
    focus (simp only [List.getElem?_toArray, List.getElem?_cons_succ, List.getElem?_cons_zero]; exact rfl)
    focus rfl
    focus ((intro wS hS; go_simp) <;> with_reducible rfl)
    try simp only [Act.put, List.setIfInBounds_toArray, List.set_cons_zero, List.set_cons_succ]
    refine keep_pure (o := ?_) (v := ?_) ?_ ?_ ?_ ?_
    rotate_left 2
    focus (simp only [List.getElem?_toArray, List.getElem?_cons_succ, List.getElem?_cons_zero]; exact rfl)
    focus rfl
    focus ((intro wS hS; go_simp) <;> with_reducible rfl)
    try simp only [Act.put, List.setIfInBounds_toArray, List.set_cons_zero, List.set_cons_succ]
    refine keep_pure (o := ?_) (v := ?_) ?_ ?_ ?_ ?_
    rotate_left 2
    focus (simp only [List.getElem?_toArray, List.getElem?_cons_succ, List.getElem?_cons_zero]; exact rfl)
    focus rfl
    focus ((intro wS hS; go_simp) <;> with_reducible rfl)
    try simp only [Act.put, List.setIfInBounds_toArray, List.set_cons_zero, List.set_cons_succ]
    refine keep_pure (o := ?_) (v := ?_) ?_ ?_ ?_ ?_
    rotate_left 2
    focus (simp only [List.getElem?_toArray, List.getElem?_cons_succ, List.getElem?_cons_zero]; exact rfl)
    focus rfl
    focus (intro wS hS; (refine cu_run_load 69 (.tmp 9) ?_ r 0 ?_ (T.map (Value.int .u64)) _ (HRT.out.keeps hS) Try.underlying69 rfl (by rw [List.length_map, lT]; exact sz_cnum)) <;> rfl)
    try simp only [Act.put, List.setIfInBounds_toArray, List.set_cons_zero, List.set_cons_succ]
    refine keep_call (o := ?_) (f := ?_) (args := ?_) (v := ?_) ?_ ?_ ?_ ?_ ?_
    rotate_left 4
    focus (simp only [List.getElem?_toArray, List.getElem?_cons_succ, List.getElem?_cons_zero]; exact rfl)
    focus rfl
    focus (intro wS; go_simp; refine ⟨?_, ?_⟩ <;> with_reducible rfl)
    focus (intro wS hS; exact HBEL.out g wS (HROW.out.keeps hS))
    try simp only [Act.put, List.setIfInBounds_toArray, List.set_cons_zero, List.set_cons_succ]
    refine keep_pure (o := ?_) (v := ?_) ?_ ?_ ?_ ?_
    rotate_left 2
    focus (simp only [List.getElem?_toArray, List.getElem?_cons_succ, List.getElem?_cons_zero]; exact rfl)
    focus rfl
    focus ((intro wS hS; go_simp) <;> with_reducible rfl)
    try simp only [Act.put, List.setIfInBounds_toArray, List.set_cons_zero, List.set_cons_succ]
    refine keep_nil ?_
    intro GG V4 hk1 hG
    clear hG
    simp only [putsA, dstAt, Act.put, ptrV, List.drop_succ_cons, List.drop_zero, List.getElem?_toArray, List.getElem?_cons_succ, List.getElem?_cons_zero, Option.bind_some, List.setIfInBounds_toArray, List.set_cons_zero, List.set_cons_succ]
    have HRres := Lib.hid (HRres.out.keeps hk1)
    have HKW := Lib.hid (HKW.out.trans hk1)
    clear hk1
    go_wp2_with ((with_reducible refine gate_store 22 (.tmp 4) (.tmp 30) ?_); refine wpList_store_row rfl 22 (.tmp 4) (.tmp 30) rfl _ 0 rfl Zr (zeroL32.map (Value.int .u8)) rfl HRres.out (by rw [hZr]; rfl) sz_b32' (int_oneCell _) ?_; intro W8 hr2 hc2; have HN := Lib.hid hr2; have HC := Lib.hid hc2; clear hr2 hc2)
    exact bodyPost_ret (results_cell_tmpB (p := 4) (t := 5) (ty := 22) rfl _ _ (p + 1 + 1) 0 _ _ _ rfl rfl HN.out Try.underlying22 rfl sz_b32') rfl ⟨rfl, nm_keeps_chg HKW.out HC.out (by omega)⟩
  · have HADD := Lib.hid hAdd; have HZO := Lib.hid hZero; have HC2 := Lib.hid hc2
    clear hAdd hZero hc2 HCASE
    refine wp_region_keep 9 [] [0, 1, 2, 3, 4, 5, 6, 7, 8] (fun _ => []) (by kernel_rfl) (by kernel_rfl) (by intro i hi; cases hi) ?_
    refine keep_pure (o := ?_) (v := ?_) ?_ ?_ ?_ ?_
    rotate_left 2
    focus (simp only [List.getElem?_toArray, List.getElem?_cons_succ, List.getElem?_cons_zero]; exact rfl)
    focus rfl
    focus ((intro wS hS; go_simp) <;> with_reducible rfl)
    try simp only [Act.put, List.setIfInBounds_toArray, List.set_cons_zero, List.set_cons_succ]
    refine keep_pure (o := ?_) (v := ?_) ?_ ?_ ?_ ?_
    rotate_left 2
    focus (simp only [List.getElem?_toArray, List.getElem?_cons_succ, List.getElem?_cons_zero]; exact rfl)
    focus rfl
    focus ((intro wS hS; go_simp) <;> with_reducible rfl)
    try simp only [Act.put, List.setIfInBounds_toArray, List.set_cons_zero, List.set_cons_succ]
    refine keep_pure (o := ?_) (v := ?_) ?_ ?_ ?_ ?_
    rotate_left 2
    focus (simp only [List.getElem?_toArray, List.getElem?_cons_succ, List.getElem?_cons_zero]; exact rfl)
    focus rfl
    focus ((intro wS hS; go_simp) <;> with_reducible rfl)
    try simp only [Act.put, List.setIfInBounds_toArray, List.set_cons_zero, List.set_cons_succ]
    refine keep_pure (o := ?_) (v := ?_) ?_ ?_ ?_ ?_
    rotate_left 2
    focus (simp only [List.getElem?_toArray, List.getElem?_cons_succ, List.getElem?_cons_zero]; exact rfl)
    focus rfl
    focus ((intro wS hS; go_simp) <;> with_reducible rfl)
    try simp only [Act.put, List.setIfInBounds_toArray, List.set_cons_zero, List.set_cons_succ]
    refine keep_pure (o := ?_) (v := ?_) ?_ ?_ ?_ ?_
    rotate_left 2
    focus (simp only [List.getElem?_toArray, List.getElem?_cons_succ, List.getElem?_cons_zero]; exact rfl)
    focus rfl
    focus ((intro wS hS; go_simp) <;> with_reducible rfl)
    try simp only [Act.put, List.setIfInBounds_toArray, List.set_cons_zero, List.set_cons_succ]
    refine keep_pure (o := ?_) (v := ?_) ?_ ?_ ?_ ?_
    rotate_left 2
    focus (simp only [List.getElem?_toArray, List.getElem?_cons_succ, List.getElem?_cons_zero]; exact rfl)
    focus rfl
    focus ((intro wS hS; go_simp) <;> with_reducible rfl)
    try simp only [Act.put, List.setIfInBounds_toArray, List.set_cons_zero, List.set_cons_succ]
    refine keep_pure (o := ?_) (v := ?_) ?_ ?_ ?_ ?_
    rotate_left 2
    focus (simp only [List.getElem?_toArray, List.getElem?_cons_succ, List.getElem?_cons_zero]; exact rfl)
    focus rfl
    focus (intro wS hS; (refine cu_run_load 69 (.tmp 9) ?_ r 0 ?_ (T.map (Value.int .u64)) _ (HRT.out.keeps hS) Try.underlying69 rfl (by rw [List.length_map, lT]; exact sz_cnum)) <;> rfl)
    try simp only [Act.put, List.setIfInBounds_toArray, List.set_cons_zero, List.set_cons_succ]
    refine keep_call (o := ?_) (f := ?_) (args := ?_) (v := ?_) ?_ ?_ ?_ ?_ ?_
    rotate_left 4
    focus (simp only [List.getElem?_toArray, List.getElem?_cons_succ, List.getElem?_cons_zero]; exact rfl)
    focus rfl
    focus (intro wS; go_simp; refine ⟨?_, ?_⟩ <;> with_reducible rfl)
    focus (intro wS hS; exact HBEL.out g wS (HROW.out.keeps hS))
    try simp only [Act.put, List.setIfInBounds_toArray, List.set_cons_zero, List.set_cons_succ]
    refine keep_pure (o := ?_) (v := ?_) ?_ ?_ ?_ ?_
    rotate_left 2
    focus (simp only [List.getElem?_toArray, List.getElem?_cons_succ, List.getElem?_cons_zero]; exact rfl)
    focus rfl
    focus ((intro wS hS; go_simp) <;> with_reducible rfl)
    try simp only [Act.put, List.setIfInBounds_toArray, List.set_cons_zero, List.set_cons_succ]
    refine keep_nil ?_
    intro GG V4 hk1 hG
    clear hG
    simp only [putsA, dstAt, Act.put, ptrV, List.drop_succ_cons, List.drop_zero, List.getElem?_toArray, List.getElem?_cons_succ, List.getElem?_cons_zero, Option.bind_some, List.setIfInBounds_toArray, List.set_cons_zero, List.set_cons_succ]
    have HRres := Lib.hid (HRres.out.keeps hk1); have HROW := Lib.hid (HROW.out.keeps hk1); have HRX := Lib.hid (HRX.out.keeps hk1); have HRT := Lib.hid (HRT.out.keeps hk1)
    have HKW := Lib.hid (HKW.out.trans hk1)
    clear hk1
    go_upto_region 6 with (fail)
    refine wp_region_keep 7 [6] [0, 1, 2, 3, 4, 5] (fun _ => zeros4) (by kernel_rfl) (by kernel_rfl) (by intro i hi; simp only [List.mem_cons, List.not_mem_nil, or_false] at hi; (first | (rcases hi with rfl | rfl) | subst hi) <;> exact ⟨_, rfl, alloc_num rfl rfl⟩) ?_
    refine keep_pure (o := ?_) (v := ?_) ?_ ?_ ?_ ?_
    rotate_left 2
    focus (simp only [List.getElem?_toArray, List.getElem?_cons_succ, List.getElem?_cons_zero]; exact rfl)
    focus rfl
    focus ((intro wS hS; go_simp) <;> with_reducible rfl)
    try simp only [Act.put, List.setIfInBounds_toArray, List.set_cons_zero, List.set_cons_succ]
    refine keep_pure (o := ?_) (v := ?_) ?_ ?_ ?_ ?_
    rotate_left 2
    focus (simp only [List.getElem?_toArray, List.getElem?_cons_succ, List.getElem?_cons_zero]; exact rfl)
    focus rfl
    focus ((intro wS hS; go_simp) <;> with_reducible rfl)
    try simp only [Act.put, List.setIfInBounds_toArray, List.set_cons_zero, List.set_cons_succ]
    refine keep_pure (o := ?_) (v := ?_) ?_ ?_ ?_ ?_
    rotate_left 2
    focus (simp only [List.getElem?_toArray, List.getElem?_cons_succ, List.getElem?_cons_zero]; exact rfl)
    focus rfl
    focus ((intro wS hS; go_simp) <;> with_reducible rfl)
    try simp only [Act.put, List.setIfInBounds_toArray, List.set_cons_zero, List.set_cons_succ]
    refine keep_pure (o := ?_) (v := ?_) ?_ ?_ ?_ ?_
    rotate_left 2
    focus (simp only [List.getElem?_toArray, List.getElem?_cons_succ, List.getElem?_cons_zero]; exact rfl)
    focus rfl
    focus (intro wS hS; (refine cu_run_load 69 (.tmp 7) ?_ q 0 ?_ (X.map (Value.int .u64)) _ (HRX.out.keeps hS) Try.underlying69 rfl (by rw [List.length_map, lX]; exact sz_cnum)) <;> rfl)
    try simp only [Act.put, List.setIfInBounds_toArray, List.set_cons_zero, List.set_cons_succ]
    refine keep_pure (o := ?_) (v := ?_) ?_ ?_ ?_ ?_
    rotate_left 2
    focus (simp only [List.getElem?_toArray, List.getElem?_cons_succ, List.getElem?_cons_zero]; exact rfl)
    focus rfl
    focus (intro wS hS; (refine cu_run_load 69 (.tmp 9) ?_ r 0 ?_ (T.map (Value.int .u64)) _ (HRT.out.keeps hS) Try.underlying69 rfl (by rw [List.length_map, lT]; exact sz_cnum)) <;> rfl)
    try simp only [Act.put, List.setIfInBounds_toArray, List.set_cons_zero, List.set_cons_succ]
    refine keep_call (o := ?_) (f := ?_) (args := ?_) (v := ?_) ?_ ?_ ?_ ?_ ?_
    rotate_left 4
    focus (simp only [List.getElem?_toArray, List.getElem?_cons_succ, List.getElem?_cons_zero]; exact rfl)
    focus rfl
    focus (intro wS; go_simp; refine ⟨?_, ?_⟩ <;> with_reducible rfl)
    focus (intro wS hS; exact HADD.out g wS (HROW.out.keeps hS))
    try simp only [Act.put, List.setIfInBounds_toArray, List.set_cons_zero, List.set_cons_succ]
    refine keep_nil ?_
    intro GG V5 hk1 hG
    obtain ⟨ha6, hz6, hd6⟩ := hG 6 (by simp)
    clear hd6
    simp only [putsA, dstAt, Act.put, ptrV, List.drop_succ_cons, List.drop_zero, List.getElem?_toArray, List.getElem?_cons_succ, List.getElem?_cons_zero, Option.bind_some, List.setIfInBounds_toArray, List.set_cons_zero, List.set_cons_succ]
    generalize GG 6 = g3 at *
    clear hG
    have HZ6 := Lib.hid hz6
    have HV1 := Lib.hid hk1; clear hk1 hz6
    go_upto_region 7 with ((with_reducible refine gate_store 69 (.tmp 10) (.tmp 36) ?_); refine wpList_store_row rfl 69 (.tmp 10) (.tmp 36) rfl _ 0 rfl zeros4 (S.map (Value.int .u64)) rfl HZ6.out (by rw [List.length_map, lS]; rfl) (by rw [List.length_map, lS]; exact sz_cnum) (int_oneCell _) ?_; intro W6 hr2 hc2; have HRS := Lib.hid hr2; have HK6 := Lib.hid (nm_keeps_chg HV1.out hc2 ha6); clear hr2 hc2)
    have HRres := Lib.hid (HRres.out.keeps HK6.out)
    have HKW := Lib.hid (HKW.out.trans HK6.out)
    rcases HC2.out with ⟨rfl, rfl, rfl⟩ | ⟨rfl, rfl, rfl, hByt⟩
    · go_wp2_with (first | ((with_reducible refine gate_load 69 (.tmp 10) ?_); refine wpList_load_at rfl 69 (.tmp 10) rfl _ 0 rfl (S.map (Value.int .u64)) _ HRS.out Try.underlying69 rfl (by rw [List.length_map, lS]; exact sz_cnum) ?_) | (go_at_call 54; refine (HZO.out _).mono ?_; rintro e W7 ⟨rfl, hk1⟩; have HK7 := Lib.hid hk1; clear hk1) | ((with_reducible refine gate_store 22 (.tmp 4) (.tmp 39) ?_); refine wpList_store_row rfl 22 (.tmp 4) (.tmp 39) rfl _ 0 rfl Zr (zeroL32.map (Value.int .u8)) rfl (HRres.out.keeps HK7.out) (by rw [hZr]; rfl) sz_b32' (int_oneCell _) ?_; intro W8 hr2 hc2; have HN := Lib.hid hr2; have HC := Lib.hid hc2; clear hr2 hc2))
      exact bodyPost_ret (results_cell_tmpB (p := 4) (t := 5) (ty := 22) rfl _ _ (p + 1 + 1) 0 _ _ _ rfl rfl HN.out Try.underlying22 rfl sz_b32') rfl ⟨rfl, nm_keeps_chg (HKW.out.trans HK7.out) HC.out (by omega)⟩
    · have HBYT := Lib.hid hByt
      clear hByt HC2
      go_upto_region 9 with (first | ((with_reducible refine gate_load 69 (.tmp 10) ?_); refine wpList_load_at rfl 69 (.tmp 10) rfl _ 0 rfl (S.map (Value.int .u64)) _ HRS.out Try.underlying69 rfl (by rw [List.length_map, lS]; exact sz_cnum) ?_) | (go_at_call 54; refine (HZO.out _).mono ?_; rintro e W7 ⟨rfl, hk1⟩; have HK7 := Lib.hid hk1; clear hk1))
      have HRres := Lib.hid (HRres.out.keeps HK7.out); have HRS := Lib.hid (HRS.out.keeps HK7.out)
      have HKW := Lib.hid (HKW.out.trans HK7.out)
      go_wp2_with (first | ((with_reducible refine gate_load 69 (.tmp 10) ?_); refine wpList_load_at rfl 69 (.tmp 10) rfl _ 0 rfl (S.map (Value.int .u64)) _ HRS.out Try.underlying69 rfl (by rw [List.length_map, lS]; exact sz_cnum) ?_) | (go_at_call 55; refine (HBYT.out _).mono ?_; rintro e W8 ⟨rfl, hk1⟩; have HK8 := Lib.hid hk1; clear hk1) | ((with_reducible refine gate_store 22 (.tmp 4) (.tmp 41) ?_); refine wpList_store_row rfl 22 (.tmp 4) (.tmp 41) rfl _ 0 rfl Zr (RES.map (Value.int .u8)) rfl (HRres.out.keeps HK8.out) (by rw [List.length_map, lR, hZr]) (by rw [List.length_map, lR]; exact sz_b32') (int_oneCell _) ?_; intro W9 hr2 hc2; have HN := Lib.hid hr2; have HC := Lib.hid hc2; clear hr2 hc2))
      exact bodyPost_ret (results_cell_tmpB (p := 4) (t := 5) (ty := 22) rfl _ _ (p + 1 + 1) 0 _ _ _ rfl rfl HN.out Try.underlying22 rfl (by rw [List.length_map, lR]; exact sz_b32')) rfl ⟨rfl, nm_keeps_chg (HKW.out.trans HK8.out) HC.out (by omega)⟩
theorem addkey_any (K B : List Int) (hK : Bytes K) (hB : Bytes B) (lK : K.length = 32) (lB : B.length = 32) (w : World) :
    Calls Try.prog 19 #[.agg (K.map (Value.int .u8)).toArray, .agg (B.map (Value.int .u8)).toArray] w fun e w' => e = .returned (.tuple #[.agg ((addKV (be K) (be B)).1.map (Value.int .u8)).toArray, .int .i64 (addKV (be K) (be B)).2]) ∧ Keeps w w' := by
  have hx := be_u256 hK lK
  have ht := be_u256 hB lB
  have hn : 0 < NV := by decide
  refine addkey_walk K B (words (be K)) (words (be B)) (words ((be K + be B) % NV)) (toB 32 ((be K + be B) % NV)) _ (keyB (be K)) (decide (be B < NV)) (decide ((be K + be B) % NV = 0)) _ lK lB (words_length _) (words_length _) (words_length _) (addKV_len _ _) w
    (fun g W hr => gkey_any g K hK lK W hr) (fun v W hr => cnumber_any v B W hr hB lB) (fun g W hr => below_any g 7 NV (be B) NV_u256 ht W (gCells_n hr)) ?_
  have hA : keyB (be K) = true → be B < NV → ∀ g W, Row W g 0 gCells → Calls Try.prog 53 #[.pointer (some ⟨g, 7, none⟩), .agg ((words (be K)).map (Value.int .u64)).toArray, .agg ((words (be B)).map (Value.int .u64)).toArray] W fun e w' => e = .returned (.agg ((words ((be K + be B) % NV)).map (Value.int .u64)).toArray) ∧ Keeps W w' := fun h1 h2 g W hr =>
    add_any g 7 NV (be K) (be B) NV_u256 ⟨hx.1, (key_lt h1).2⟩ ⟨ht.1, h2⟩ W (gCells_n hr)
  have hU : U256 ((be K + be B) % NV) := ⟨Int.emod_nonneg _ (by omega), Int.lt_trans (Int.emod_lt_of_pos _ hn) NV_u256.2⟩
  rcases addKV_cases (be K) (be B) with ⟨h1, h2⟩ | ⟨h1, h2, h3⟩ | ⟨h1, h2, h3, h4⟩ | ⟨h1, h2, h3, h4⟩
  · exact .inl ⟨h1, by rw [h2], by rw [h2]⟩
  · exact .inr (.inl ⟨h1, decide_eq_false h2, by rw [h3], by rw [h3]⟩)
  · exact .inr (.inr ⟨h1, decide_eq_true h2, hA h1 h2, fun W => czero_any _ hU W, .inl ⟨decide_eq_true h3, by rw [h4], by rw [h4]⟩⟩)
  · exact .inr (.inr ⟨h1, decide_eq_true h2, hA h1 h2, fun W => czero_any _ hU W, .inr ⟨decide_eq_false h3, by rw [h4], by rw [h4], fun W => cbytes_any _ W⟩⟩)
end Go.Proofs.Ytajipagpdphejaa
