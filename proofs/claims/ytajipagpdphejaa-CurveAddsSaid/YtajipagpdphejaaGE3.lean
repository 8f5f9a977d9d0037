/- The reference's AddKey. No condition. -/
import Derived.Test.YtajipagpdphejaaGE2
namespace Go.Proofs.Ytajipagpdphejaa
set_option linter.unusedVariables false
set_option linter.unusedSimpArgs false
open Go Go.RowKit Cv

def rz8 : Array Value := #[.int .u32 0, .int .u32 0, .int .u32 0, .int .u32 0, .int .u32 0, .int .u32 0, .int .u32 0, .int .u32 0]
theorem rz8_eq : ((words8 0).map (Value.int .u32)).toArray = rz8 := by simp [rz8, words8, List.range_succ]
set_option maxRecDepth 100000 in
set_option maxHeartbeats 8000000 in
theorem raddkey_walk (K B X T NN S BS RES : List Int) (kb lt z : Bool) (er : Int) (lK : K.length = 32) (lB : B.length = 32) (lX : X.length = 8) (lT : T.length = 8) (lS : S.length = 8) (lR : RES.length = 32) (w : World)
    (hOfK : ∀ v W, Rd W 1 v 32 (K.map (Value.int .u8)) → Calls Try.prog 24 #[v] W fun e w' => e = .returned (.agg (X.map (Value.int .u32)).toArray) ∧ Keeps W w')
    (hOfB : ∀ v W, Rd W 1 v 32 (B.map (Value.int .u8)) → Calls Try.prog 24 #[v] W fun e w' => e = .returned (.agg (T.map (Value.int .u32)).toArray) ∧ Keeps W w')
    (hKey : ∀ W, Calls Try.prog 33 #[.agg (X.map (Value.int .u32)).toArray] W fun e w' => e = .returned (.bool kb) ∧ Keeps W w')
    (hN : ∀ W, Calls Try.prog 27 #[] W fun e w' => e = .returned (.agg (NN.map (Value.int .u32)).toArray) ∧ Keeps W w')
    (hLs : ∀ W, Calls Try.prog 25 #[.agg (T.map (Value.int .u32)).toArray, .agg (NN.map (Value.int .u32)).toArray] W fun e w' => e = .returned (.bool lt) ∧ Keeps W w')
    (hcase : (kb = false ∧ RES = zeroL32 ∧ er = 1) ∨ (kb = true ∧ lt = false ∧ RES = zeroL32 ∧ er = 1) ∨ (kb = true ∧ lt = true ∧
      (∀ W, Calls Try.prog 56 #[.agg (X.map (Value.int .u32)).toArray, .agg (T.map (Value.int .u32)).toArray, .agg (NN.map (Value.int .u32)).toArray] W fun e w' => e = .returned (.agg (S.map (Value.int .u32)).toArray) ∧ Keeps W w') ∧
      (∀ W, (Op.equalIn 10000 37 (.agg (S.map (Value.int .u32)).toArray) (.agg rz8)).run Try.prog W = .ok z W) ∧
      ((z = true ∧ RES = zeroL32 ∧ er = 7) ∨ (z = false ∧ RES = BS ∧ er = 0 ∧ ∀ W, Calls Try.prog 57 #[.agg (S.map (Value.int .u32)).toArray] W fun e w' => e = .returned (.agg (BS.map (Value.int .u8)).toArray) ∧ Keeps W w')))) :
    Calls Try.prog 20 #[.agg (K.map (Value.int .u8)).toArray, .agg (B.map (Value.int .u8)).toArray] w fun e w' => e = .returned (.tuple #[.agg (RES.map (Value.int .u8)).toArray, .int .i64 er]) ∧ Keeps w w' := by
  have HOK := Lib.hid hOfK; have HOB := Lib.hid hOfB; have HKEY := Lib.hid hKey; have HNN := Lib.hid hN; have HLS := Lib.hid hLs; have HCASE := Lib.hid hcase
  clear hOfK hOfB hKey hN hLs hcase
  go_enter Try.func20, Try.ntmps20
  go_upto_region 1 with (fail)
  refine wp_rows3 (fun W hk hra hrb hrc hs => ?_)
  obtain ⟨p, hp⟩ : ∃ p, p = w.heap.size := ⟨_, rfl⟩
  rw [← hp] at hra hrb hrc hs ⊢
  have hkp : w.heap.size ≤ p := by omega
  obtain ⟨Zr, hZr, hrz⟩ : ∃ Zr : List Value, Zr.length = 32 ∧ Row W (p + 1 + 1) 0 Zr := ⟨_, rfl, hrc⟩
  have HRK := Lib.hid (show Row W p 0 (K.map (Value.int .u8)) from hra); have HRB := Lib.hid (show Row W (p + 1) 0 (B.map (Value.int .u8)) from hrb); have HKW := Lib.hid hk; have HRres := Lib.hid hrz
  have hpW : p + 1 < W.heap.size := by omega
  clear hp hk hra hrb hrc hrz hs
  go_upto_region 2 with (first | (go_at_call 24; refine (HOK.out _ _ (Rd.of_row HRK.out (by simp [lK]) (by omega) (by omega) (by unfold maxLen; omega))).mono ?_; rintro e W2 ⟨rfl, hk2⟩; have HK2 := Lib.hid hk2; clear hk2) | (refine wpList_store_row rfl 37 (.tmp 6) (.tmp 10) rfl W2.heap.size 0 rfl zeros8 (X.map (Value.int .u32)) rfl (Row.new _ _ _ rfl) (by rw [List.length_map, lX]; rfl) (by rw [List.length_map, lX]; exact sz_rnum) (int_oneCell _) ?_; intro W3 hr2 hc2; have HRX := Lib.hid hr2; have HK3 := Lib.hid (nm_keeps_chg (nm_keeps_alloc HK2.out _) hc2 HK2.out.size); clear hr2 hc2))
  generalize W2.heap.size = q at *
  have HRres := Lib.hid (HRres.out.keeps HK3.out); have HRB := Lib.hid (HRB.out.keeps HK3.out)
  have HKW := Lib.hid (HKW.out.trans HK3.out)
  have hpW3 : p + 1 < W3.heap.size := Nat.lt_of_lt_of_le hpW HK3.out.size
  clear HK3 HK2
  go_upto_region 3 with (first | (go_at_call 24; refine (HOB.out _ _ (Rd.of_row HRB.out (by simp [lB]) hpW3 (by omega) (by unfold maxLen; omega))).mono ?_; rintro e W4 ⟨rfl, hk2⟩; have HK4 := Lib.hid hk2; clear hk2) | (refine wpList_store_row rfl 37 (.tmp 7) (.tmp 12) rfl W4.heap.size 0 rfl zeros8 (T.map (Value.int .u32)) rfl (Row.new _ _ _ rfl) (by rw [List.length_map, lT]; rfl) (by rw [List.length_map, lT]; exact sz_rnum) (int_oneCell _) ?_; intro W5 hr2 hc2; have HRT := Lib.hid hr2; have HK5 := Lib.hid (nm_keeps_chg (nm_keeps_alloc HK4.out _) hc2 HK4.out.size); clear hr2 hc2))
  generalize W4.heap.size = r at *
  have HRres := Lib.hid (HRres.out.keeps HK5.out); have HRX := Lib.hid (HRX.out.keeps HK5.out)
  have HKW := Lib.hid (HKW.out.trans HK5.out)
  clear HK5 HK4 HRB HRK
  rcases HCASE.out with ⟨rfl, rfl, rfl⟩ | ⟨rfl, rfl, rfl, rfl⟩ | ⟨rfl, rfl, hAdd, hZero, hc2⟩
  · refine wp_region_keep 8 [] [0, 1, 2, 3, 4, 5, 6, 7] (fun _ => []) (by kernel_rfl) (by kernel_rfl) (by intro i hi; cases hi) ?_
    refine keep_pure (o := ?_) (v := ?_) ?_ ?_ ?_ ?_
    rotate_left 2
    focus (simp only [List.getElem?_toArray, List.getElem?_cons_succ, List.getElem?_cons_zero]; exact rfl)
    focus rfl
    focus (intro wS hS; (refine cu_run_load 37 (.tmp 6) ?_ q 0 ?_ (X.map (Value.int .u32)) _ (HRX.out.keeps hS) Try.underlying37 rfl (by rw [List.length_map, lX]; exact sz_rnum)) <;> rfl)
    try simp only [Act.put, List.setIfInBounds_toArray, List.set_cons_zero, List.set_cons_succ]
    refine keep_call (o := ?_) (f := ?_) (args := ?_) (v := ?_) ?_ ?_ ?_ ?_ ?_
    rotate_left 4
    focus (simp only [List.getElem?_toArray, List.getElem?_cons_succ, List.getElem?_cons_zero]; exact rfl)
    focus rfl
    focus (intro wS; go_simp; refine ⟨?_, ?_⟩ <;> with_reducible rfl)
    focus (intro wS hS; exact HKEY.out wS)
    try simp only [Act.put, List.setIfInBounds_toArray, List.set_cons_zero, List.set_cons_succ]
    refine keep_pure (o := ?_) (v := ?_) ?_ ?_ ?_ ?_
    rotate_left 2
    focus (simp only [List.getElem?_toArray, List.getElem?_cons_succ, List.getElem?_cons_zero]; exact rfl)
    focus rfl
    focus ((intro wS hS; go_simp) <;> with_reducible rfl)
    try simp only [Act.put, List.setIfInBounds_toArray, List.set_cons_zero, List.set_cons_succ]
    refine keep_pure (o := ?_) (v := ?_) ?_ ?_ ?_ ?_
    rotate_left 2
    focus (simp only [List.getElem?_toArray, List.getElem?_cons_succ, List.getElem?_cons_zero]; exact rfl)
    focus rfl
    focus ((intro wS hS; go_simp) <;> with_reducible rfl)
    try simp only [Act.put, List.setIfInBounds_toArray, List.set_cons_zero, List.set_cons_succ]
    refine keep_skip (o := ?_) ?_ ?_ ?_
    rotate_left 1
    focus (simp only [List.getElem?_toArray, List.getElem?_cons_succ, List.getElem?_cons_zero]; exact rfl)
    focus rfl
    try simp only [Act.put, List.setIfInBounds_toArray, List.set_cons_zero, List.set_cons_succ]
    refine keep_skip (o := ?_) ?_ ?_ ?_
    rotate_left 1
    focus (simp only [List.getElem?_toArray, List.getElem?_cons_succ, List.getElem?_cons_zero]; exact rfl)
    focus rfl
    try simp only [Act.put, List.setIfInBounds_toArray, List.set_cons_zero, List.set_cons_succ]
    refine keep_skip (o := ?_) ?_ ?_ ?_
    rotate_left 1
    focus (simp only [List.getElem?_toArray, List.getElem?_cons_succ, List.getElem?_cons_zero]; exact rfl)
    focus rfl
    try simp only [Act.put, List.setIfInBounds_toArray, List.set_cons_zero, List.set_cons_succ]
    refine keep_skip (o := ?_) ?_ ?_ ?_
    rotate_left 1
    focus (simp only [List.getElem?_toArray, List.getElem?_cons_succ, List.getElem?_cons_zero]; exact rfl)
    focus rfl
    try simp only [Act.put, List.setIfInBounds_toArray, List.set_cons_zero, List.set_cons_succ]
    refine keep_nil ?_
    intro GG V4 hk1 hG
    clear hG
    simp only [putsA, dstAt, Act.put, ptrV, List.drop_succ_cons, List.drop_zero, List.getElem?_toArray, List.getElem?_cons_succ, List.getElem?_cons_zero, Option.bind_some, List.setIfInBounds_toArray, List.set_cons_zero, List.set_cons_succ]
    have HRres := Lib.hid (HRres.out.keeps hk1)
    have HKW := Lib.hid (HKW.out.trans hk1)
    clear hk1
    go_wp2_with (refine wpList_store_row rfl 22 (.tmp 4) (.tmp 22) rfl _ 0 rfl Zr (zeroL32.map (Value.int .u8)) rfl HRres.out (by rw [hZr]; rfl) sz_b32' (int_oneCell _) ?_; intro W8 hr2 hc2; have HN := Lib.hid hr2; have HC := Lib.hid hc2; clear hr2 hc2)
    exact bodyPost_ret (results_cell_tmpB (p := 4) (t := 5) (ty := 22) rfl _ _ (p + 1 + 1) 0 _ _ _ rfl rfl HN.out Try.underlying22 rfl sz_b32') rfl ⟨rfl, nm_keeps_chg HKW.out HC.out (by omega)⟩
  · refine wp_region_keep 8 [] [0, 1, 2, 3, 4, 5, 6, 7] (fun _ => []) (by kernel_rfl) (by kernel_rfl) (by intro i hi; cases hi) ?_
    refine keep_pure (o := ?_) (v := ?_) ?_ ?_ ?_ ?_
    rotate_left 2
    focus (simp only [List.getElem?_toArray, List.getElem?_cons_succ, List.getElem?_cons_zero]; exact rfl)
    focus rfl
    focus (intro wS hS; (refine cu_run_load 37 (.tmp 6) ?_ q 0 ?_ (X.map (Value.int .u32)) _ (HRX.out.keeps hS) Try.underlying37 rfl (by rw [List.length_map, lX]; exact sz_rnum)) <;> rfl)
    try simp only [Act.put, List.setIfInBounds_toArray, List.set_cons_zero, List.set_cons_succ]
    refine keep_call (o := ?_) (f := ?_) (args := ?_) (v := ?_) ?_ ?_ ?_ ?_ ?_
    rotate_left 4
    focus (simp only [List.getElem?_toArray, List.getElem?_cons_succ, List.getElem?_cons_zero]; exact rfl)
    focus rfl
    focus (intro wS; go_simp; refine ⟨?_, ?_⟩ <;> with_reducible rfl)
    focus (intro wS hS; exact HKEY.out wS)
    try simp only [Act.put, List.setIfInBounds_toArray, List.set_cons_zero, List.set_cons_succ]
    refine keep_pure (o := ?_) (v := ?_) ?_ ?_ ?_ ?_
    rotate_left 2
    focus (simp only [List.getElem?_toArray, List.getElem?_cons_succ, List.getElem?_cons_zero]; exact rfl)
    focus rfl
    focus ((intro wS hS; go_simp) <;> with_reducible rfl)
    try simp only [Act.put, List.setIfInBounds_toArray, List.set_cons_zero, List.set_cons_succ]
    refine keep_pure (o := ?_) (v := ?_) ?_ ?_ ?_ ?_
    rotate_left 2
    focus (simp only [List.getElem?_toArray, List.getElem?_cons_succ, List.getElem?_cons_zero]; exact rfl)
    focus rfl
    focus ((intro wS hS; go_simp) <;> with_reducible rfl)
    try simp only [Act.put, List.setIfInBounds_toArray, List.set_cons_zero, List.set_cons_succ]
    refine keep_pure (o := ?_) (v := ?_) ?_ ?_ ?_ ?_
    rotate_left 2
    focus (simp only [List.getElem?_toArray, List.getElem?_cons_succ, List.getElem?_cons_zero]; exact rfl)
    focus rfl
    focus (intro wS hS; (refine cu_run_load 37 (.tmp 7) ?_ r 0 ?_ (T.map (Value.int .u32)) _ (HRT.out.keeps hS) Try.underlying37 rfl (by rw [List.length_map, lT]; exact sz_rnum)) <;> rfl)
    try simp only [Act.put, List.setIfInBounds_toArray, List.set_cons_zero, List.set_cons_succ]
    refine keep_call (o := ?_) (f := ?_) (args := ?_) (v := ?_) ?_ ?_ ?_ ?_ ?_
    rotate_left 4
    focus (simp only [List.getElem?_toArray, List.getElem?_cons_succ, List.getElem?_cons_zero]; exact rfl)
    focus rfl
    focus (intro wS; go_simp; refine ⟨?_, ?_⟩ <;> with_reducible rfl)
    focus (intro wS hS; exact HNN.out wS)
    try simp only [Act.put, List.setIfInBounds_toArray, List.set_cons_zero, List.set_cons_succ]
    refine keep_call (o := ?_) (f := ?_) (args := ?_) (v := ?_) ?_ ?_ ?_ ?_ ?_
    rotate_left 4
    focus (simp only [List.getElem?_toArray, List.getElem?_cons_succ, List.getElem?_cons_zero]; exact rfl)
    focus rfl
    focus (intro wS; go_simp; refine ⟨?_, ?_⟩ <;> with_reducible rfl)
    focus (intro wS hS; exact HLS.out wS)
    try simp only [Act.put, List.setIfInBounds_toArray, List.set_cons_zero, List.set_cons_succ]
    refine keep_pure (o := ?_) (v := ?_) ?_ ?_ ?_ ?_
    rotate_left 2
    focus (simp only [List.getElem?_toArray, List.getElem?_cons_succ, List.getElem?_cons_zero]; exact rfl)
    focus rfl
    focus ((intro wS hS; go_simp) <;> with_reducible rfl)
    try simp only [Act.put, List.setIfInBounds_toArray, List.set_cons_zero, List.set_cons_succ]
    refine keep_nil ?_
    intro GG V4 hk1 hG
    clear hG
    simp only [putsA, dstAt, Act.put, ptrV, List.drop_succ_cons, List.drop_zero, List.getElem?_toArray, List.getElem?_cons_succ, List.getElem?_cons_zero, Option.bind_some, List.setIfInBounds_toArray, List.set_cons_zero, List.set_cons_succ]
    have HRres := Lib.hid (HRres.out.keeps hk1)
    have HKW := Lib.hid (HKW.out.trans hk1)
    clear hk1
    go_wp2_with (refine wpList_store_row rfl 22 (.tmp 4) (.tmp 22) rfl _ 0 rfl Zr (zeroL32.map (Value.int .u8)) rfl HRres.out (by rw [hZr]; rfl) sz_b32' (int_oneCell _) ?_; intro W8 hr2 hc2; have HN := Lib.hid hr2; have HC := Lib.hid hc2; clear hr2 hc2)
    exact bodyPost_ret (results_cell_tmpB (p := 4) (t := 5) (ty := 22) rfl _ _ (p + 1 + 1) 0 _ _ _ rfl rfl HN.out Try.underlying22 rfl sz_b32') rfl ⟨rfl, nm_keeps_chg HKW.out HC.out (by omega)⟩
  · have HADD := Lib.hid hAdd; have HZO := Lib.hid hZero; have HC2 := Lib.hid hc2
    clear hAdd hZero hc2 HCASE
    refine wp_region_keep 8 [] [0, 1, 2, 3, 4, 5, 6, 7] (fun _ => []) (by kernel_rfl) (by kernel_rfl) (by intro i hi; cases hi) ?_
    refine keep_pure (o := ?_) (v := ?_) ?_ ?_ ?_ ?_
    rotate_left 2
    focus (simp only [List.getElem?_toArray, List.getElem?_cons_succ, List.getElem?_cons_zero]; exact rfl)
    focus rfl
    focus (intro wS hS; (refine cu_run_load 37 (.tmp 6) ?_ q 0 ?_ (X.map (Value.int .u32)) _ (HRX.out.keeps hS) Try.underlying37 rfl (by rw [List.length_map, lX]; exact sz_rnum)) <;> rfl)
    try simp only [Act.put, List.setIfInBounds_toArray, List.set_cons_zero, List.set_cons_succ]
    refine keep_call (o := ?_) (f := ?_) (args := ?_) (v := ?_) ?_ ?_ ?_ ?_ ?_
    rotate_left 4
    focus (simp only [List.getElem?_toArray, List.getElem?_cons_succ, List.getElem?_cons_zero]; exact rfl)
    focus rfl
    focus (intro wS; go_simp; refine ⟨?_, ?_⟩ <;> with_reducible rfl)
    focus (intro wS hS; exact HKEY.out wS)
    try simp only [Act.put, List.setIfInBounds_toArray, List.set_cons_zero, List.set_cons_succ]
    refine keep_pure (o := ?_) (v := ?_) ?_ ?_ ?_ ?_
    rotate_left 2
    focus (simp only [List.getElem?_toArray, List.getElem?_cons_succ, List.getElem?_cons_zero]; exact rfl)
    focus rfl
    focus ((intro wS hS; go_simp) <;> with_reducible rfl)
    try simp only [Act.put, List.setIfInBounds_toArray, List.set_cons_zero, List.set_cons_succ]
    refine keep_pure (o := ?_) (v := ?_) ?_ ?_ ?_ ?_
    rotate_left 2
    focus (simp only [List.getElem?_toArray, List.getElem?_cons_succ, List.getElem?_cons_zero]; exact rfl)
    focus rfl
    focus ((intro wS hS; go_simp) <;> with_reducible rfl)
    try simp only [Act.put, List.setIfInBounds_toArray, List.set_cons_zero, List.set_cons_succ]
    refine keep_pure (o := ?_) (v := ?_) ?_ ?_ ?_ ?_
    rotate_left 2
    focus (simp only [List.getElem?_toArray, List.getElem?_cons_succ, List.getElem?_cons_zero]; exact rfl)
    focus rfl
    focus (intro wS hS; (refine cu_run_load 37 (.tmp 7) ?_ r 0 ?_ (T.map (Value.int .u32)) _ (HRT.out.keeps hS) Try.underlying37 rfl (by rw [List.length_map, lT]; exact sz_rnum)) <;> rfl)
    try simp only [Act.put, List.setIfInBounds_toArray, List.set_cons_zero, List.set_cons_succ]
    refine keep_call (o := ?_) (f := ?_) (args := ?_) (v := ?_) ?_ ?_ ?_ ?_ ?_
    rotate_left 4
    focus (simp only [List.getElem?_toArray, List.getElem?_cons_succ, List.getElem?_cons_zero]; exact rfl)
    focus rfl
    focus (intro wS; go_simp; refine ⟨?_, ?_⟩ <;> with_reducible rfl)
    focus (intro wS hS; exact HNN.out wS)
    try simp only [Act.put, List.setIfInBounds_toArray, List.set_cons_zero, List.set_cons_succ]
    refine keep_call (o := ?_) (f := ?_) (args := ?_) (v := ?_) ?_ ?_ ?_ ?_ ?_
    rotate_left 4
    focus (simp only [List.getElem?_toArray, List.getElem?_cons_succ, List.getElem?_cons_zero]; exact rfl)
    focus rfl
    focus (intro wS; go_simp; refine ⟨?_, ?_⟩ <;> with_reducible rfl)
    focus (intro wS hS; exact HLS.out wS)
    try simp only [Act.put, List.setIfInBounds_toArray, List.set_cons_zero, List.set_cons_succ]
    refine keep_pure (o := ?_) (v := ?_) ?_ ?_ ?_ ?_
    rotate_left 2
    focus (simp only [List.getElem?_toArray, List.getElem?_cons_succ, List.getElem?_cons_zero]; exact rfl)
    focus rfl
    focus ((intro wS hS; go_simp) <;> with_reducible rfl)
    try simp only [Act.put, List.setIfInBounds_toArray, List.set_cons_zero, List.set_cons_succ]
    refine keep_nil ?_
    intro GG V4 hk1 hG
    clear hG
    simp only [putsA, dstAt, Act.put, ptrV, List.drop_succ_cons, List.drop_zero, List.getElem?_toArray, List.getElem?_cons_succ, List.getElem?_cons_zero, Option.bind_some, List.setIfInBounds_toArray, List.set_cons_zero, List.set_cons_succ]
    have HRres := Lib.hid (HRres.out.keeps hk1); have HRX := Lib.hid (HRX.out.keeps hk1); have HRT := Lib.hid (HRT.out.keeps hk1)
    have HKW := Lib.hid (HKW.out.trans hk1)
    clear hk1
    go_upto_region 5 with (fail)
    refine wp_region_keep 5 [4] [0, 1, 2, 3] (fun _ => zeros8) (by kernel_rfl) (by kernel_rfl) (by intro i hi; simp only [List.mem_cons, List.not_mem_nil, or_false] at hi; (first | (rcases hi with rfl | rfl) | subst hi) <;> exact ⟨_, rfl, alloc_rnum rfl rfl⟩) ?_
    refine keep_pure (o := ?_) (v := ?_) ?_ ?_ ?_ ?_
    rotate_left 2
    focus (simp only [List.getElem?_toArray, List.getElem?_cons_succ, List.getElem?_cons_zero]; exact rfl)
    focus rfl
    focus (intro wS hS; (refine cu_run_load 37 (.tmp 6) ?_ q 0 ?_ (X.map (Value.int .u32)) _ (HRX.out.keeps hS) Try.underlying37 rfl (by rw [List.length_map, lX]; exact sz_rnum)) <;> rfl)
    try simp only [Act.put, List.setIfInBounds_toArray, List.set_cons_zero, List.set_cons_succ]
    refine keep_pure (o := ?_) (v := ?_) ?_ ?_ ?_ ?_
    rotate_left 2
    focus (simp only [List.getElem?_toArray, List.getElem?_cons_succ, List.getElem?_cons_zero]; exact rfl)
    focus rfl
    focus (intro wS hS; (refine cu_run_load 37 (.tmp 7) ?_ r 0 ?_ (T.map (Value.int .u32)) _ (HRT.out.keeps hS) Try.underlying37 rfl (by rw [List.length_map, lT]; exact sz_rnum)) <;> rfl)
    try simp only [Act.put, List.setIfInBounds_toArray, List.set_cons_zero, List.set_cons_succ]
    refine keep_call (o := ?_) (f := ?_) (args := ?_) (v := ?_) ?_ ?_ ?_ ?_ ?_
    rotate_left 4
    focus (simp only [List.getElem?_toArray, List.getElem?_cons_succ, List.getElem?_cons_zero]; exact rfl)
    focus rfl
    focus (intro wS; go_simp; refine ⟨?_, ?_⟩ <;> with_reducible rfl)
    focus (intro wS hS; exact HNN.out wS)
    try simp only [Act.put, List.setIfInBounds_toArray, List.set_cons_zero, List.set_cons_succ]
    refine keep_call (o := ?_) (f := ?_) (args := ?_) (v := ?_) ?_ ?_ ?_ ?_ ?_
    rotate_left 4
    focus (simp only [List.getElem?_toArray, List.getElem?_cons_succ, List.getElem?_cons_zero]; exact rfl)
    focus rfl
    focus (intro wS; go_simp; refine ⟨?_, ?_⟩ <;> with_reducible rfl)
    focus (intro wS hS; exact HADD.out wS)
    try simp only [Act.put, List.setIfInBounds_toArray, List.set_cons_zero, List.set_cons_succ]
    refine keep_nil ?_
    intro GG V5 hk1 hG
    obtain ⟨ha6, hz6, hd6⟩ := hG 4 (by simp)
    clear hd6
    simp only [putsA, dstAt, Act.put, ptrV, List.drop_succ_cons, List.drop_zero, List.getElem?_toArray, List.getElem?_cons_succ, List.getElem?_cons_zero, Option.bind_some, List.setIfInBounds_toArray, List.set_cons_zero, List.set_cons_succ]
    generalize GG 4 = g3 at *
    clear hG
    have HZ6 := Lib.hid hz6
    have HV1 := Lib.hid hk1; clear hk1 hz6
    go_upto_region 6 with (refine wpList_store_row rfl 37 (.tmp 8) (.tmp 26) rfl _ 0 rfl zeros8 (S.map (Value.int .u32)) rfl HZ6.out (by rw [List.length_map, lS]; rfl) (by rw [List.length_map, lS]; exact sz_rnum) (int_oneCell _) ?_; intro W6 hr2 hc2; have HRS := Lib.hid hr2; have HK6 := Lib.hid (nm_keeps_chg HV1.out hc2 ha6); clear hr2 hc2)
    have HRres := Lib.hid (HRres.out.keeps HK6.out)
    have HKW := Lib.hid (HKW.out.trans HK6.out)
    rcases HC2.out with ⟨rfl, rfl, rfl⟩ | ⟨rfl, rfl, rfl, hByt⟩
    · go_wp2_with (first | (refine wpList_load_at rfl 37 (.tmp 8) rfl _ 0 rfl (S.map (Value.int .u32)) _ HRS.out Try.underlying37 rfl (by rw [List.length_map, lS]; exact sz_rnum) ?_) | ((with_reducible refine gate_bin .eql 37 37 (.tmp 27) (.tmp 28) ?_); refine cu_eql (by kernel_rfl) 37 37 (.tmp 27) (.tmp 28) rfl _ rz8 rfl rfl true HZO.out (by kernel_rfl) ?_) | (refine wpList_store_row rfl 22 (.tmp 4) (.tmp 30) rfl _ 0 rfl Zr (zeroL32.map (Value.int .u8)) rfl HRres.out (by rw [hZr]; rfl) sz_b32' (int_oneCell _) ?_; intro W8 hr2 hc2; have HN := Lib.hid hr2; have HC := Lib.hid hc2; clear hr2 hc2))
      exact bodyPost_ret (results_cell_tmpB (p := 4) (t := 5) (ty := 22) rfl _ _ (p + 1 + 1) 0 _ _ _ rfl rfl HN.out Try.underlying22 rfl sz_b32') rfl ⟨rfl, nm_keeps_chg HKW.out HC.out (by omega)⟩
    · have HBYT := Lib.hid hByt
      clear hByt HC2
      go_wp2_with (first | (refine wpList_load_at rfl 37 (.tmp 8) rfl _ 0 rfl (S.map (Value.int .u32)) _ HRS.out Try.underlying37 rfl (by rw [List.length_map, lS]; exact sz_rnum) ?_) | ((with_reducible refine gate_bin .eql 37 37 (.tmp 27) (.tmp 28) ?_); refine cu_eql (by kernel_rfl) 37 37 (.tmp 27) (.tmp 28) rfl _ rz8 rfl rfl false HZO.out (by kernel_rfl) ?_) | (go_at_call 57; refine (HBYT.out _).mono ?_; rintro e W8 ⟨rfl, hk1⟩; have HK8 := Lib.hid hk1; clear hk1) | (refine wpList_store_row rfl 22 (.tmp 4) (.tmp 32) rfl _ 0 rfl Zr (RES.map (Value.int .u8)) rfl (HRres.out.keeps HK8.out) (by rw [List.length_map, lR, hZr]) (by rw [List.length_map, lR]; exact sz_b32') (int_oneCell _) ?_; intro W9 hr2 hc2; have HN := Lib.hid hr2; have HC := Lib.hid hc2; clear hr2 hc2))
      exact bodyPost_ret (results_cell_tmpB (p := 4) (t := 5) (ty := 22) rfl _ _ (p + 1 + 1) 0 _ _ _ rfl rfl HN.out Try.underlying22 rfl (by rw [List.length_map, lR]; exact sz_b32')) rfl ⟨rfl, nm_keeps_chg (HKW.out.trans HK8.out) HC.out (by omega)⟩
theorem raddkey_any (K B : List Int) (hK : Bytes K) (hB : Bytes B) (lK : K.length = 32) (lB : B.length = 32) (w : World) :
    Calls Try.prog 20 #[.agg (K.map (Value.int .u8)).toArray, .agg (B.map (Value.int .u8)).toArray] w fun e w' => e = .returned (.tuple #[.agg ((addKV (be K) (be B)).1.map (Value.int .u8)).toArray, .int .i64 (addKV (be K) (be B)).2]) ∧ Keeps w w' := by
  have hx := be_u256 hK lK
  have ht := be_u256 hB lB
  have hn : 0 < NV := by decide
  have hU : U256 ((be K + be B) % NV) := ⟨Int.emod_nonneg _ (by omega), Int.lt_trans (Int.emod_lt_of_pos _ hn) NV_u256.2⟩
  have hE := rnum_equal ((be K + be B) % NV) 0 hU ⟨by omega, by decide⟩
  rw [rz8_eq] at hE
  refine raddkey_walk K B (words8 (be K)) (words8 (be B)) (words8 NV) (words8 ((be K + be B) % NV)) (toB 32 ((be K + be B) % NV)) _ (keyB (be K)) (decide (be B < NV)) (decide ((be K + be B) % NV = 0)) _ lK lB (words8_length _) (words8_length _) (words8_length _) (addKV_len _ _) w
    (fun v W hr => rof_any v K W hr hK lK) (fun v W hr => rof_any v B W hr hB lB) (fun W => rkey_any _ hx W) (fun W => rn_any W) (fun W => rless8_any _ _ ht NV_u256 W) ?_
  have hA := fun W => radd_any NV (be K) (be B) rmod_n hx ht W
  rcases addKV_cases (be K) (be B) with ⟨h1, h2⟩ | ⟨h1, h2, h3⟩ | ⟨h1, h2, h3, h4⟩ | ⟨h1, h2, h3, h4⟩
  · exact .inl ⟨h1, by rw [h2], by rw [h2]⟩
  · exact .inr (.inl ⟨h1, decide_eq_false h2, by rw [h3], by rw [h3]⟩)
  · exact .inr (.inr ⟨h1, decide_eq_true h2, hA, hE, .inl ⟨decide_eq_true h3, by rw [h4], by rw [h4]⟩⟩)
  · exact .inr (.inr ⟨h1, decide_eq_true h2, hA, hE, .inr ⟨decide_eq_false h3, by rw [h4], by rw [h4], fun W => rbytes_any _ W⟩⟩)
end Go.Proofs.Ytajipagpdphejaa
