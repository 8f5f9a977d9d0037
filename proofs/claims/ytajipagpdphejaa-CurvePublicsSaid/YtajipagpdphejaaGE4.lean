/- Both Public, and IsPublic. No condition. -/
import Derived.Test.YtajipagpdphejaaGE3
namespace Go.Proofs.Ytajipagpdphejaa
set_option linter.unusedVariables false
set_option linter.unusedSimpArgs false
open Go Go.RowKit Cv

/-- the public key of a number, as bytes -/
def pubB (k : Nat) : List Int := pkB (flatJ (timesJ k gJ 256)).1 (flatJ (timesJ k gJ 256)).2
theorem pkB_len (x y : Nat) : (pkB x y).length = 33 := by unfold pkB; rw [List.length_cons, toB_length]
theorem pubB_len (k : Nat) : (pubB k).length = 33 := pkB_len _ _
theorem pubR_eq {k : Nat} (hk : k < 2 ^ 256) : pkB (flatR (timesR k gJ 256)).1 (flatR (timesR k gJ 256)).2 = pubB k := by
  unfold pubB
  rw [flatR_eq (timesR_ok k 256) (timesR_n g_on gJ_pr hk), flatJ_eq (timesJ_ok k gJ_ok 256) (times_n gJ_ok g_on gJ_jr hk)]
def zeroL33 : List Int := List.replicate 33 0
def pubV (x : Int) : List Int := if keyB x = true then pubB x.toNat else zeroL33
theorem pubV_len (x : Int) : (pubV x).length = 33 := by
  unfold pubV
  split
  · exact pubB_len _
  · rfl
def errV (x : Int) : Int := if keyB x = true then 0 else 1
theorem key_lt {x : Int} (h : keyB x = true) : 0 < x ∧ x < NV := by
  unfold keyB at h
  rwa [decide_eq_true_eq] at h
set_option maxRecDepth 100000 in
set_option maxHeartbeats 2000000 in
theorem ispub_any (v : Value) (l : List Int) (hb : Bytes l) (w : World) (hv : Rd w 1 v l.length (l.map (Value.int .u8))) :
    Calls Try.prog 13 #[v] w fun e w' => e = .returned (.bool (unpN l).isSome) ∧ Keeps w w' := by
  have HU := Lib.hid (fun g W hr hv => unpack_any g v l hb W hr hv)
  have HV := Lib.hid hv
  have HCV := Lib.hid curve_any
  have hul := unpC_len l
  generalize unpC l = X at *
  generalize (unpN l).isSome = D at *
  clear hv hb
  go_enter Try.func13, Try.ntmps13
  go_upto_region 2 with (first | (go_at_call 28; refine (HCV.out _).mono ?_; rintro e W1 ⟨g, rfl, hk1, hgg, hrow⟩; have HK1 := Lib.hid hk1; have HROW := Lib.hid hrow; clear hk1 hrow) | (go_at_call 37; refine (HU.out g _ HROW.out (HV.out.keeps HK1.out)).mono ?_; rintro e W2 ⟨rfl, hk2⟩; have HK2 := Lib.hid (HK1.out.trans hk2); clear hk2) | (refine wpList_store_row rfl 74 (.tmp 3) (.tmp 9) rfl W2.heap.size 0 rfl ((List.replicate 12 (0 : Int)).map (Value.int .u64)) (X.map (Value.int .u64)) rfl (Row.new _ _ _ rfl) (by rw [List.length_map, hul]; rfl) (by rw [List.length_map, hul]; exact sz_cpt) (int_oneCell _) ?_; intro W3 hr2 hc2; have HK3 := Lib.hid (nm_keeps_chg (nm_keeps_alloc HK2.out _) hc2 HK2.out.size); clear hr2 hc2))
  go_wp2
  go_ret
  exact ⟨rfl, HK3.out⟩
set_option maxRecDepth 100000 in
set_option maxHeartbeats 4000000 in
theorem public_any (l : List Int) (hb : Bytes l) (hl : l.length = 32) (w : World) :
    Calls Try.prog 10 #[.agg (l.map (Value.int .u8)).toArray] w fun e w' => e = .returned (.tuple #[.agg ((pubV (be l)).map (Value.int .u8)).toArray, .int .i64 (errV (be l))]) ∧ Keeps w w' := by
  have HKEY := Lib.hid (fun g W hr => gkey_any g l hb hl W hr)
  have HCV := Lib.hid curve_any
  have hwl := words_length (be l)
  have hx := be_u256 hb hl
  by_cases hkey : keyB (be l) = true
  · have h1 := key_lt hkey
    have HBASE := Lib.hid (fun g W hr => base_any g W hr)
    have HTIM := Lib.hid (fun g W hr => times_any g (be l).toNat gJ (by have := h1.2; have := nv_eq; have := n_lt; omega) gJ_ok W hr)
    have hnw : words (be l) = nw (be l).toNat := by unfold nw; rw [Int.toNat_of_nonneg (by omega)]
    rw [← hnw] at HTIM
    have HPAK := Lib.hid (fun g W hr => pack_any g (timesJ (be l).toNat gJ 256) (timesJ_ok _ gJ_ok 256) W hr)
    have hpl := pubB_len (be l).toNat
    rw [show pkB (flatJ (timesJ (be l).toNat gJ 256)).1 (flatJ (timesJ (be l).toNat gJ 256)).2 = pubB (be l).toNat from rfl] at HPAK
    have e1 : pubV (be l) = pubB (be l).toNat := by unfold pubV; rw [if_pos hkey]
    have e2 : errV (be l) = 0 := by unfold errV; rw [if_pos hkey]
    rw [e1, e2]
    rw [hkey] at HKEY
    generalize pubB (be l).toNat = PB at *
    generalize ptW (timesJ (be l).toNat gJ 256) = TM at *
    generalize ptW gJ = GJ at *
    generalize words (be l) = X at *
    clear e1 e2 hkey h1 hnw hx
    go_enter Try.func10, Try.ntmps10
    go_upto_region 1 with (fail)
    refine cu_rows2 (fun W hk hr hr2 hs => ?_)
    obtain ⟨p, hp⟩ : ∃ p, p = w.heap.size := ⟨_, rfl⟩
    rw [← hp] at hr hr2 hs ⊢
    have hkp : w.heap.size ≤ p := by omega
    obtain ⟨Zr, hZr, hrz⟩ : ∃ Zr : List Value, Zr.length = 33 ∧ Row W (p + 1) 0 Zr := ⟨_, rfl, hr2⟩
    have HR := Lib.hid (show Row W p 0 (l.map (Value.int .u8)) from hr); have HKW := Lib.hid hk; have HRres := Lib.hid hrz
    have hps : p + 1 < W.heap.size := by omega
    clear hp hk hr hr2 hrz hs
    go_upto_region 2 with (go_at_call 28; refine (HCV.out _).mono ?_; rintro e W1 ⟨g, rfl, hk1, hgg, hrow⟩; have HK1 := Lib.hid hk1; have HROW := Lib.hid hrow; clear hk1 hrow)
    have HR := Lib.hid (HR.out.keeps HK1.out)
    go_upto_region 3 with (first | (refine wpList_load_at rfl 22 (.tmp 1) rfl _ 0 rfl (l.map (Value.int .u8)) _ HR.out Try.underlying22 rfl (by rw [List.length_map, hl]; exact sz_b32') ?_) | (go_at_call 29; refine (HKEY.out g _ HROW.out).mono ?_; rintro e W2 ⟨rfl, hk2⟩; have HK2 := Lib.hid hk2; clear hk2) | (refine wpList_store_row rfl 69 (.tmp 5) (.tmp 12) rfl W2.heap.size 0 rfl zeros4 (X.map (Value.int .u64)) rfl (Row.new _ _ _ rfl) (by rw [List.length_map, hwl]; rfl) (by rw [List.length_map, hwl]; exact sz_cnum) (int_oneCell _) ?_; intro W3 hr2 hc2; have HRX := Lib.hid hr2; have HK3 := Lib.hid (nm_keeps_chg (nm_keeps_alloc HK2.out _) hc2 HK2.out.size); clear hr2 hc2))
    generalize W2.heap.size = q at *
    have HROW := Lib.hid (HROW.out.keeps HK3.out)
    have HKA := Lib.hid (HK1.out.trans HK3.out)
    have HRres := Lib.hid (HRres.out.keeps HKA.out)
    have HKW := Lib.hid (HKW.out.trans HKA.out)
    go_upto_region 5 with (fail)
    refine wp_region_keep 7 [] [0, 1, 2, 3, 4, 5, 6] (fun _ => []) (by kernel_rfl) (by kernel_rfl) (by intro i hi; cases hi) ?_
    refine keep_pure (o := ?_) (v := ?_) ?_ ?_ ?_ ?_
    rotate_left 2
    focus (simp only [List.getElem?_toArray, List.getElem?_cons_succ, List.getElem?_cons_zero]; exact rfl)
    focus rfl
    focus ((intro wS hS; go_simp) <;> with_reducible rfl)
    try simp only [Act.put, List.setIfInBounds_toArray, List.set_cons_zero, List.set_cons_succ]
    refine keep_pure (o := ?_) (v := ?_) ?_ ?_ ?_ ?_
    rotate_left 2
    focus (simp only [List.getElem?_toArray, List.getElem?_cons_succ, List.getElem?_cons_zero]; exact rfl)
    focus rfl
    focus ((intro wS hS; go_simp) <;> with_reducible rfl)
    try simp only [Act.put, List.setIfInBounds_toArray, List.set_cons_zero, List.set_cons_succ]
    refine keep_pure (o := ?_) (v := ?_) ?_ ?_ ?_ ?_
    rotate_left 2
    focus (simp only [List.getElem?_toArray, List.getElem?_cons_succ, List.getElem?_cons_zero]; exact rfl)
    focus rfl
    focus (intro wS hS; (refine cu_run_load 69 (.tmp 5) ?_ q 0 ?_ (X.map (Value.int .u64)) _ (HRX.out.keeps hS) Try.underlying69 rfl (by rw [List.length_map, hwl]; exact sz_cnum)) <;> rfl)
    try simp only [Act.put, List.setIfInBounds_toArray, List.set_cons_zero, List.set_cons_succ]
    refine keep_pure (o := ?_) (v := ?_) ?_ ?_ ?_ ?_
    rotate_left 2
    focus (simp only [List.getElem?_toArray, List.getElem?_cons_succ, List.getElem?_cons_zero]; exact rfl)
    focus rfl
    focus ((intro wS hS; go_simp) <;> with_reducible rfl)
    try simp only [Act.put, List.setIfInBounds_toArray, List.set_cons_zero, List.set_cons_succ]
    refine keep_call (o := ?_) (f := ?_) (args := ?_) (v := ?_) ?_ ?_ ?_ ?_ ?_
    rotate_left 4
    focus (simp only [List.getElem?_toArray, List.getElem?_cons_succ, List.getElem?_cons_zero]; exact rfl)
    focus rfl
    focus (intro wS; go_simp; refine ⟨?_, ?_⟩ <;> with_reducible rfl)
    focus (intro wS hS; exact HBASE.out g wS (HROW.out.keeps hS))
    try simp only [Act.put, List.setIfInBounds_toArray, List.set_cons_zero, List.set_cons_succ]
    refine keep_call (o := ?_) (f := ?_) (args := ?_) (v := ?_) ?_ ?_ ?_ ?_ ?_
    rotate_left 4
    focus (simp only [List.getElem?_toArray, List.getElem?_cons_succ, List.getElem?_cons_zero]; exact rfl)
    focus rfl
    focus (intro wS; go_simp; refine ⟨?_, ?_⟩ <;> with_reducible rfl)
    focus (intro wS hS; exact HTIM.out g wS (HROW.out.keeps hS))
    try simp only [Act.put, List.setIfInBounds_toArray, List.set_cons_zero, List.set_cons_succ]
    refine keep_call (o := ?_) (f := ?_) (args := ?_) (v := ?_) ?_ ?_ ?_ ?_ ?_
    rotate_left 4
    focus (simp only [List.getElem?_toArray, List.getElem?_cons_succ, List.getElem?_cons_zero]; exact rfl)
    focus rfl
    focus (intro wS; go_simp; refine ⟨?_, ?_⟩ <;> with_reducible rfl)
    focus (intro wS hS; exact HPAK.out g wS (HROW.out.keeps hS))
    try simp only [Act.put, List.setIfInBounds_toArray, List.set_cons_zero, List.set_cons_succ]
    refine keep_nil ?_
    intro GG V4 hk1 hG
    clear hG
    simp only [putsA, dstAt, Act.put, ptrV, List.drop_succ_cons, List.drop_zero, List.getElem?_toArray, List.getElem?_cons_succ, List.getElem?_cons_zero, Option.bind_some, List.setIfInBounds_toArray, List.set_cons_zero, List.set_cons_succ]
    have HRres := Lib.hid (HRres.out.keeps hk1)
    have HKW := Lib.hid (HKW.out.trans hk1)
    clear hk1
    go_wp2_with (refine wpList_store_row rfl 25 (.tmp 2) (.tmp 23) rfl _ 0 rfl Zr (PB.map (Value.int .u8)) rfl HRres.out (by rw [List.length_map, hpl, hZr]) (by rw [List.length_map, hpl]; exact sz_b33) (int_oneCell _) ?_; intro W8 hr2 hc2; have HN := Lib.hid hr2; have HC := Lib.hid hc2; clear hr2 hc2)
    exact bodyPost_ret (results_cell_tmpB (p := 2) (t := 3) (ty := 25) rfl _ _ (p + 1) 0 _ _ _ rfl rfl HN.out Try.underlying25 rfl (by rw [List.length_map, hpl]; exact sz_b33)) rfl ⟨rfl, nm_keeps_chg HKW.out HC.out (by omega)⟩
  · have hkey' : keyB (be l) = false := by simpa using hkey
    have e1 : pubV (be l) = zeroL33 := by unfold pubV; rw [if_neg hkey]
    have e2 : errV (be l) = 1 := by unfold errV; rw [if_neg hkey]
    rw [e1, e2]
    rw [hkey'] at HKEY
    generalize words (be l) = X at *
    clear e1 e2 hkey hkey' hx
    go_enter Try.func10, Try.ntmps10
    go_upto_region 1 with (fail)
    refine cu_rows2 (fun W hk hr hr2 hs => ?_)
    obtain ⟨p, hp⟩ : ∃ p, p = w.heap.size := ⟨_, rfl⟩
    rw [← hp] at hr hr2 hs ⊢
    have hkp : w.heap.size ≤ p := by omega
    obtain ⟨Zr, hZr, hrz⟩ : ∃ Zr : List Value, Zr.length = 33 ∧ Row W (p + 1) 0 Zr := ⟨_, rfl, hr2⟩
    have HR := Lib.hid (show Row W p 0 (l.map (Value.int .u8)) from hr); have HKW := Lib.hid hk; have HRres := Lib.hid hrz
    clear hp hk hr hr2 hrz hs
    go_upto_region 2 with (go_at_call 28; refine (HCV.out _).mono ?_; rintro e W1 ⟨g, rfl, hk1, hgg, hrow⟩; have HK1 := Lib.hid hk1; have HROW := Lib.hid hrow; clear hk1 hrow)
    have HR := Lib.hid (HR.out.keeps HK1.out)
    go_upto_region 3 with (first | (refine wpList_load_at rfl 22 (.tmp 1) rfl _ 0 rfl (l.map (Value.int .u8)) _ HR.out Try.underlying22 rfl (by rw [List.length_map, hl]; exact sz_b32') ?_) | (go_at_call 29; refine (HKEY.out g _ HROW.out).mono ?_; rintro e W2 ⟨rfl, hk2⟩; have HK2 := Lib.hid hk2; clear hk2) | (refine wpList_store_row rfl 69 (.tmp 5) (.tmp 12) rfl W2.heap.size 0 rfl zeros4 (X.map (Value.int .u64)) rfl (Row.new _ _ _ rfl) (by rw [List.length_map, hwl]; rfl) (by rw [List.length_map, hwl]; exact sz_cnum) (int_oneCell _) ?_; intro W3 hr2 hc2; have HK3 := Lib.hid (nm_keeps_chg (nm_keeps_alloc HK2.out _) hc2 HK2.out.size); clear hr2 hc2))
    have HKA := Lib.hid (HK1.out.trans HK3.out)
    have HRres := Lib.hid (HRres.out.keeps HKA.out)
    have HKW := Lib.hid (HKW.out.trans HKA.out)
    go_wp2_with (refine wpList_store_row rfl 25 (.tmp 2) (.tmp 16) rfl _ 0 rfl Zr (zeroL33.map (Value.int .u8)) rfl HRres.out (by rw [hZr]; rfl) sz_b33 (int_oneCell _) ?_; intro W8 hr2 hc2; have HN := Lib.hid hr2; have HC := Lib.hid hc2; clear hr2 hc2)
    exact bodyPost_ret (results_cell_tmpB (p := 2) (t := 3) (ty := 25) rfl _ _ (p + 1) 0 _ _ _ rfl rfl HN.out Try.underlying25 rfl sz_b33) rfl ⟨rfl, nm_keeps_chg HKW.out HC.out (by omega)⟩
set_option maxRecDepth 100000 in
set_option maxHeartbeats 4000000 in
theorem rpublic_any (l : List Int) (hb : Bytes l) (hl : l.length = 32) (w : World) :
    Calls Try.prog 11 #[.agg (l.map (Value.int .u8)).toArray] w fun e w' => e = .returned (.tuple #[.agg ((pubV (be l)).map (Value.int .u8)).toArray, .bool (keyB (be l))]) ∧ Keeps w w' := by
  have HOF := Lib.hid (fun (v : Value) W hr => rof_any v l W hr hb hl)
  have hwl := words8_length (be l)
  have hx := be_u256 hb hl
  have HKEY := Lib.hid (rkey_any (be l) hx)
  by_cases hkey : keyB (be l) = true
  · have h1 := key_lt hkey
    have hk2 : (be l).toNat < 2 ^ 256 := by have := h1.2; have := nv_eq; have := n_lt; omega
    have HG := Lib.hid rG_any
    have HTIM := Lib.hid (fun W => rtimes_any (be l).toNat gJ hk2 gJ_ok W)
    have hnw : words8 (be l) = nw8 (be l).toNat := by unfold nw8; rw [Int.toNat_of_nonneg (by omega)]
    rw [← hnw] at HTIM
    have HPAK := Lib.hid (fun W => rpack_any (timesR (be l).toNat gJ 256) (timesR_ok _ 256) W)
    have hpl := pubB_len (be l).toNat
    rw [pubR_eq hk2] at HPAK
    have e1 : pubV (be l) = pubB (be l).toNat := by unfold pubV; rw [if_pos hkey]
    rw [e1, hkey]
    rw [hkey] at HKEY
    generalize pubB (be l).toNat = PB at *
    generalize ptR (timesR (be l).toNat gJ 256) = TM at *
    generalize ptR gJ = GJ at *
    generalize words8 (be l) = X at *
    clear e1 hkey h1 hnw hx hk2
    go_enter Try.func11, Try.ntmps11
    go_upto_region 1 with (fail)
    refine cu_rows2 (fun W hk hr hr2 hs => ?_)
    obtain ⟨p, hp⟩ : ∃ p, p = w.heap.size := ⟨_, rfl⟩
    rw [← hp] at hr hr2 hs ⊢
    have hkp : w.heap.size ≤ p := by omega
    obtain ⟨Zr, hZr, hrz⟩ : ∃ Zr : List Value, Zr.length = 33 ∧ Row W (p + 1) 0 Zr := ⟨_, rfl, hr2⟩
    have HR := Lib.hid (show Row W p 0 (l.map (Value.int .u8)) from hr); have HKW := Lib.hid hk; have HRres := Lib.hid hrz
    have hpW : p < W.heap.size := by omega
    clear hp hk hr hr2 hrz hs
    go_upto_region 2 with (first | (go_at_call 24; refine (HOF.out _ _ (Rd.of_row HR.out (by simp [hl]) hpW (by omega) (by unfold maxLen; omega))).mono ?_; rintro e W2 ⟨rfl, hk2⟩; have HK2 := Lib.hid hk2; clear hk2) | (refine wpList_store_row rfl 37 (.tmp 4) (.tmp 6) rfl W2.heap.size 0 rfl zeros8 (X.map (Value.int .u32)) rfl (Row.new _ _ _ rfl) (by rw [List.length_map, hwl]; rfl) (by rw [List.length_map, hwl]; exact sz_rnum) (int_oneCell _) ?_; intro W3 hr2 hc2; have HRX := Lib.hid hr2; have HK3 := Lib.hid (nm_keeps_chg (nm_keeps_alloc HK2.out _) hc2 HK2.out.size); clear hr2 hc2))
    generalize W2.heap.size = q at *
    go_upto_region 4 with (first | (refine wpList_load_at rfl 37 (.tmp 4) rfl _ 0 rfl (X.map (Value.int .u32)) _ HRX.out Try.underlying37 rfl (by rw [List.length_map, hwl]; exact sz_rnum) ?_) | (go_at_call 33; refine (HKEY.out _).mono ?_; rintro e W4 ⟨rfl, hk2⟩; have HK4 := Lib.hid hk2; clear hk2))
    have HRX := Lib.hid (HRX.out.keeps HK4.out)
    have HKA := Lib.hid (HK3.out.trans HK4.out)
    have HRres := Lib.hid (HRres.out.keeps HKA.out)
    have HKW := Lib.hid (HKW.out.trans HKA.out)
    refine wp_region_keep 4 [] [0, 1, 2, 3] (fun _ => []) (by kernel_rfl) (by kernel_rfl) (by intro i hi; cases hi) ?_
    refine keep_pure (o := ?_) (v := ?_) ?_ ?_ ?_ ?_
    rotate_left 2
    focus (simp only [List.getElem?_toArray, List.getElem?_cons_succ, List.getElem?_cons_zero]; exact rfl)
    focus rfl
    focus (intro wS hS; (refine cu_run_load 37 (.tmp 4) ?_ q 0 ?_ (X.map (Value.int .u32)) _ (HRX.out.keeps hS) Try.underlying37 rfl (by rw [List.length_map, hwl]; exact sz_rnum)) <;> rfl)
    try simp only [Act.put, List.setIfInBounds_toArray, List.set_cons_zero, List.set_cons_succ]
    refine keep_call (o := ?_) (f := ?_) (args := ?_) (v := ?_) ?_ ?_ ?_ ?_ ?_
    rotate_left 4
    focus (simp only [List.getElem?_toArray, List.getElem?_cons_succ, List.getElem?_cons_zero]; exact rfl)
    focus rfl
    focus (intro wS; go_simp; refine ⟨?_, ?_⟩ <;> with_reducible rfl)
    focus (intro wS hS; exact HG.out wS)
    try simp only [Act.put, List.setIfInBounds_toArray, List.set_cons_zero, List.set_cons_succ]
    refine keep_call (o := ?_) (f := ?_) (args := ?_) (v := ?_) ?_ ?_ ?_ ?_ ?_
    rotate_left 4
    focus (simp only [List.getElem?_toArray, List.getElem?_cons_succ, List.getElem?_cons_zero]; exact rfl)
    focus rfl
    focus (intro wS; go_simp; refine ⟨?_, ?_⟩ <;> with_reducible rfl)
    focus (intro wS hS; exact HTIM.out wS)
    try simp only [Act.put, List.setIfInBounds_toArray, List.set_cons_zero, List.set_cons_succ]
    refine keep_call (o := ?_) (f := ?_) (args := ?_) (v := ?_) ?_ ?_ ?_ ?_ ?_
    rotate_left 4
    focus (simp only [List.getElem?_toArray, List.getElem?_cons_succ, List.getElem?_cons_zero]; exact rfl)
    focus rfl
    focus (intro wS; go_simp; refine ⟨?_, ?_⟩ <;> with_reducible rfl)
    focus (intro wS hS; exact HPAK.out wS)
    try simp only [Act.put, List.setIfInBounds_toArray, List.set_cons_zero, List.set_cons_succ]
    refine keep_nil ?_
    intro GG V4 hk1 hG
    clear hG
    simp only [putsA, dstAt, Act.put, ptrV, List.drop_succ_cons, List.drop_zero, List.getElem?_toArray, List.getElem?_cons_succ, List.getElem?_cons_zero, Option.bind_some, List.setIfInBounds_toArray, List.set_cons_zero, List.set_cons_succ]
    have HRres := Lib.hid (HRres.out.keeps hk1)
    have HKW := Lib.hid (HKW.out.trans hk1)
    clear hk1
    go_wp2_with (refine wpList_store_row rfl 25 (.tmp 2) (.tmp 14) rfl _ 0 rfl Zr (PB.map (Value.int .u8)) rfl HRres.out (by rw [List.length_map, hpl, hZr]) (by rw [List.length_map, hpl]; exact sz_b33) (int_oneCell _) ?_; intro W8 hr2 hc2; have HN := Lib.hid hr2; have HC := Lib.hid hc2; clear hr2 hc2)
    exact bodyPost_ret (results_cell_tmpB (p := 2) (t := 3) (ty := 25) rfl _ _ (p + 1) 0 _ _ _ rfl rfl HN.out Try.underlying25 rfl (by rw [List.length_map, hpl]; exact sz_b33)) rfl ⟨rfl, nm_keeps_chg HKW.out HC.out (by omega)⟩
  · have hkey' : keyB (be l) = false := by simpa using hkey
    have e1 : pubV (be l) = zeroL33 := by unfold pubV; rw [if_neg hkey]
    rw [e1, hkey']
    rw [hkey'] at HKEY
    generalize words8 (be l) = X at *
    clear e1 hkey hkey' hx
    go_enter Try.func11, Try.ntmps11
    go_upto_region 1 with (fail)
    refine cu_rows2 (fun W hk hr hr2 hs => ?_)
    obtain ⟨p, hp⟩ : ∃ p, p = w.heap.size := ⟨_, rfl⟩
    rw [← hp] at hr hr2 hs ⊢
    have hkp : w.heap.size ≤ p := by omega
    obtain ⟨Zr, hZr, hrz⟩ : ∃ Zr : List Value, Zr.length = 33 ∧ Row W (p + 1) 0 Zr := ⟨_, rfl, hr2⟩
    have HR := Lib.hid (show Row W p 0 (l.map (Value.int .u8)) from hr); have HKW := Lib.hid hk; have HRres := Lib.hid hrz
    have hpW : p < W.heap.size := by omega
    clear hp hk hr hr2 hrz hs
    go_upto_region 2 with (first | (go_at_call 24; refine (HOF.out _ _ (Rd.of_row HR.out (by simp [hl]) hpW (by omega) (by unfold maxLen; omega))).mono ?_; rintro e W2 ⟨rfl, hk2⟩; have HK2 := Lib.hid hk2; clear hk2) | (refine wpList_store_row rfl 37 (.tmp 4) (.tmp 6) rfl W2.heap.size 0 rfl zeros8 (X.map (Value.int .u32)) rfl (Row.new _ _ _ rfl) (by rw [List.length_map, hwl]; rfl) (by rw [List.length_map, hwl]; exact sz_rnum) (int_oneCell _) ?_; intro W3 hr2 hc2; have HRX := Lib.hid hr2; have HK3 := Lib.hid (nm_keeps_chg (nm_keeps_alloc HK2.out _) hc2 HK2.out.size); clear hr2 hc2))
    generalize W2.heap.size = q at *
    go_upto_region 3 with (first | (refine wpList_load_at rfl 37 (.tmp 4) rfl _ 0 rfl (X.map (Value.int .u32)) _ HRX.out Try.underlying37 rfl (by rw [List.length_map, hwl]; exact sz_rnum) ?_) | (go_at_call 33; refine (HKEY.out _).mono ?_; rintro e W4 ⟨rfl, hk2⟩; have HK4 := Lib.hid hk2; clear hk2))
    have HKA := Lib.hid (HK3.out.trans HK4.out)
    have HRres := Lib.hid (HRres.out.keeps HKA.out)
    have HKW := Lib.hid (HKW.out.trans HKA.out)
    go_wp2_with (refine wpList_store_row rfl 25 (.tmp 2) (.tmp 10) rfl _ 0 rfl Zr (zeroL33.map (Value.int .u8)) rfl HRres.out (by rw [hZr]; rfl) sz_b33 (int_oneCell _) ?_; intro W8 hr2 hc2; have HN := Lib.hid hr2; have HC := Lib.hid hc2; clear hr2 hc2)
    exact bodyPost_ret (results_cell_tmpB (p := 2) (t := 3) (ty := 25) rfl _ _ (p + 1) 0 _ _ _ rfl rfl HN.out Try.underlying25 rfl sz_b33) rfl ⟨rfl, nm_keeps_chg HKW.out HC.out (by omega)⟩
end Go.Proofs.Ytajipagpdphejaa
