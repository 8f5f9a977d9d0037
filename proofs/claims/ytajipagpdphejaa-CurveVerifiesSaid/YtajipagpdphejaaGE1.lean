/- Both Public, and IsPublic. No condition. | A public key's bytes are its point; law05's awake. No condition. | The references' Spare and Kept, at bytes: a copy of one's own with nine bytes behind it, and whether it is still as it was. -/
import Derived.Test.YtajipagpdphejaaGE0
import Derived.Test.YtajipagpdphejaaGA3
namespace Go.Proofs.Ytajipagpdphejaa
set_option linter.unusedVariables false
set_option linter.unusedSimpArgs false
open Go Go.RowKit Cv

/-- the public key of a number, as bytes -/
def pubB (k : Nat) : List Int := pkB (flatJ (timesJ k gJ 256)).1 (flatJ (timesJ k gJ 256)).2
theorem pkB_len (x y : Nat) : (pkB x y).length = 33 := by unfold pkB; rw [List.length_cons, toB_length]
theorem pubB_len (k : Nat) : (pubB k).length = 33 := pkB_len _ _
def zeroL33 : List Int := List.replicate 33 0
def pubV (x : Int) : List Int := if keyB x = true then pubB x.toNat else zeroL33
theorem pubV_len (x : Int) : (pubV x).length = 33 := by
  unfold pubV
  split
  · exact pubB_len _
  · rfl
def errV (x : Int) : Int := if keyB x = true then 0 else 1
theorem key_lt {x : Int} (h : keyB x = true) : 0 < x ∧ x < NV := by
  unfold keyB at h
  rwa [decide_eq_true_eq] at h
set_option maxRecDepth 100000 in
set_option maxHeartbeats 4000000 in
theorem public_any (l : List Int) (hb : Bytes l) (hl : l.length = 32) (w : World) :
    Calls Try.prog 10 #[.agg (l.map (Value.int .u8)).toArray] w fun e w' => e = .returned (.tuple #[.agg ((pubV (be l)).map (Value.int .u8)).toArray, .int .i64 (errV (be l))]) ∧ Keeps w w' := by
  have HKEY := Lib.hid (fun g W hr => gkey_any g l hb hl W hr)
  have HCV := Lib.hid curve_any
  have hwl := words_length (be l)
  have hx := be_u256 hb hl
  by_cases hkey : keyB (be l) = true
  · have h1 := key_lt hkey
    have HBASE := Lib.hid (fun g W hr => base_any g W hr)
    have HTIM := Lib.hid (fun g W hr => times_any g (be l).toNat gJ (by have := h1.2; have := nv_eq; have := n_lt; omega) gJ_ok W hr)
    have hnw : words (be l) = nw (be l).toNat := by unfold nw; rw [Int.toNat_of_nonneg (by omega)]
    rw [← hnw] at HTIM
    have HPAK := Lib.hid (fun g W hr => pack_any g (timesJ (be l).toNat gJ 256) (timesJ_ok _ gJ_ok 256) W hr)
    have hpl := pubB_len (be l).toNat
    rw [show pkB (flatJ (timesJ (be l).toNat gJ 256)).1 (flatJ (timesJ (be l).toNat gJ 256)).2 = pubB (be l).toNat from rfl] at HPAK
    have e1 : pubV (be l) = pubB (be l).toNat := by unfold pubV; rw [if_pos hkey]
    have e2 : errV (be l) = 0 := by unfold errV; rw [if_pos hkey]
    rw [e1, e2]
    rw [hkey] at HKEY
    generalize pubB (be l).toNat = PB at *
    generalize ptW (timesJ (be l).toNat gJ 256) = TM at *
    generalize ptW gJ = GJ at *
    generalize words (be l) = X at *
    clear e1 e2 hkey h1 hnw hx
    go_enter Try.func10, Try.ntmps10
    go_upto_region 1 with (fail)
    refine cu_rows2 (fun W hk hr hr2 hs => ?_)
    obtain ⟨p, hp⟩ : ∃ p, p = w.heap.size := ⟨_, rfl⟩
    rw [← hp] at hr hr2 hs ⊢
    have hkp : w.heap.size ≤ p := by omega
    obtain ⟨Zr, hZr, hrz⟩ : ∃ Zr : List Value, Zr.length = 33 ∧ Row W (p + 1) 0 Zr := ⟨_, rfl, hr2⟩
    have HR := Lib.hid (show Row W p 0 (l.map (Value.int .u8)) from hr); have HKW := Lib.hid hk; have HRres := Lib.hid hrz
    have hps : p + 1 < W.heap.size := by omega
    clear hp hk hr hr2 hrz hs
    go_upto_region 2 with (go_at_call 28; refine (HCV.out _).mono ?_; rintro e W1 ⟨g, rfl, hk1, hgg, hrow⟩; have HK1 := Lib.hid hk1; have HROW := Lib.hid hrow; clear hk1 hrow)
    have HR := Lib.hid (HR.out.keeps HK1.out)
    go_upto_region 3 with (first | (refine wpList_load_at rfl 22 (.tmp 1) rfl _ 0 rfl (l.map (Value.int .u8)) _ HR.out Try.underlying22 rfl (by rw [List.length_map, hl]; exact sz_b32') ?_) | (go_at_call 29; refine (HKEY.out g _ HROW.out).mono ?_; rintro e W2 ⟨rfl, hk2⟩; have HK2 := Lib.hid hk2; clear hk2) | (refine wpList_store_row rfl 69 (.tmp 5) (.tmp 12) rfl W2.heap.size 0 rfl zeros4 (X.map (Value.int .u64)) rfl (Row.new _ _ _ rfl) (by rw [List.length_map, hwl]; rfl) (by rw [List.length_map, hwl]; exact sz_cnum) (int_oneCell _) ?_; intro W3 hr2 hc2; have HRX := Lib.hid hr2; have HK3 := Lib.hid (nm_keeps_chg (nm_keeps_alloc HK2.out _) hc2 HK2.out.size); clear hr2 hc2))
    generalize W2.heap.size = q at *
    have HROW := Lib.hid (HROW.out.keeps HK3.out)
    have HKA := Lib.hid (HK1.out.trans HK3.out)
    have HRres := Lib.hid (HRres.out.keeps HKA.out)
    have HKW := Lib.hid (HKW.out.trans HKA.out)
    go_upto_region 5 with (fail)
    refine wp_region_keep 7 [] [0, 1, 2, 3, 4, 5, 6] (fun _ => []) (by kernel_rfl) (by kernel_rfl) (by intro i hi; cases hi) ?_
    refine keep_pure (o := ?_) (v := ?_) ?_ ?_ ?_ ?_
    rotate_left 2
    focus (simp only [List.getElem?_toArray, List.getElem?_cons_succ, List.getElem?_cons_zero]; exact rfl)
    focus rfl
    focus ((intro wS hS; go_simp) <;> with_reducible rfl)
    try simp only [Act.put, List.setIfInBounds_toArray, List.set_cons_zero, List.set_cons_succ]
    refine keep_pure (o := ?_) (v := ?_) ?_ ?_ ?_ ?_
    rotate_left 2
    focus (simp only [List.getElem?_toArray, List.getElem?_cons_succ, List.getElem?_cons_zero]; exact rfl)
    focus rfl
    focus ((intro wS hS; go_simp) <;> with_reducible rfl)
    try simp only [Act.put, List.setIfInBounds_toArray, List.set_cons_zero, List.set_cons_succ]
    refine keep_pure (o := ?_) (v := ?_) ?_ ?_ ?_ ?_
    rotate_left 2
    focus (simp only [List.getElem?_toArray, List.getElem?_cons_succ, List.getElem?_cons_zero]; exact rfl)
    focus rfl
    focus (intro wS hS; (refine cu_run_load 69 (.tmp 5) ?_ q 0 ?_ (X.map (Value.int .u64)) _ (HRX.out.keeps hS) Try.underlying69 rfl (by rw [List.length_map, hwl]; exact sz_cnum)) <;> rfl)
    try simp only [Act.put, List.setIfInBounds_toArray, List.set_cons_zero, List.set_cons_succ]
    refine keep_pure (o := ?_) (v := ?_) ?_ ?_ ?_ ?_
    rotate_left 2
    focus (simp only [List.getElem?_toArray, List.getElem?_cons_succ, List.getElem?_cons_zero]; exact rfl)
    focus rfl
    focus ((intro wS hS; go_simp) <;> with_reducible rfl)
    try simp only [Act.put, List.setIfInBounds_toArray, List.set_cons_zero, List.set_cons_succ]
    refine keep_call (o := ?_) (f := ?_) (args := ?_) (v := ?_) ?_ ?_ ?_ ?_ ?_
    rotate_left 4
    focus (simp only [List.getElem?_toArray, List.getElem?_cons_succ, List.getElem?_cons_zero]; exact rfl)
    focus rfl
    focus (intro wS; go_simp; refine ⟨?_, ?_⟩ <;> with_reducible rfl)
    focus (intro wS hS; exact HBASE.out g wS (HROW.out.keeps hS))
    try simp only [Act.put, List.setIfInBounds_toArray, List.set_cons_zero, List.set_cons_succ]
    refine keep_call (o := ?_) (f := ?_) (args := ?_) (v := ?_) ?_ ?_ ?_ ?_ ?_
    rotate_left 4
    focus (simp only [List.getElem?_toArray, List.getElem?_cons_succ, List.getElem?_cons_zero]; exact rfl)
    focus rfl
    focus (intro wS; go_simp; refine ⟨?_, ?_⟩ <;> with_reducible rfl)
    focus (intro wS hS; exact HTIM.out g wS (HROW.out.keeps hS))
    try simp only [Act.put, List.setIfInBounds_toArray, List.set_cons_zero, List.set_cons_succ]
    refine keep_call (o := ?_) (f := ?_) (args := ?_) (v := ?_) ?_ ?_ ?_ ?_ ?_
    rotate_left 4
    focus (simp only [List.getElem?_toArray, List.getElem?_cons_succ, List.getElem?_cons_zero]; exact rfl)
    focus rfl
    focus (intro wS; go_simp; refine ⟨?_, ?_⟩ <;> with_reducible rfl)
    focus (intro wS hS; exact HPAK.out g wS (HROW.out.keeps hS))
    try simp only [Act.put, List.setIfInBounds_toArray, List.set_cons_zero, List.set_cons_succ]
    refine keep_nil ?_
    intro GG V4 hk1 hG
    clear hG
    simp only [putsA, dstAt, Act.put, ptrV, List.drop_succ_cons, List.drop_zero, List.getElem?_toArray, List.getElem?_cons_succ, List.getElem?_cons_zero, Option.bind_some, List.setIfInBounds_toArray, List.set_cons_zero, List.set_cons_succ]
    have HRres := Lib.hid (HRres.out.keeps hk1)
    have HKW := Lib.hid (HKW.out.trans hk1)
    clear hk1
    go_wp2_with (refine wpList_store_row rfl 25 (.tmp 2) (.tmp 23) rfl _ 0 rfl Zr (PB.map (Value.int .u8)) rfl HRres.out (by rw [List.length_map, hpl, hZr]) (by rw [List.length_map, hpl]; exact sz_b33) (int_oneCell _) ?_; intro W8 hr2 hc2; have HN := Lib.hid hr2; have HC := Lib.hid hc2; clear hr2 hc2)
    exact bodyPost_ret (results_cell_tmpB (p := 2) (t := 3) (ty := 25) rfl _ _ (p + 1) 0 _ _ _ rfl rfl HN.out Try.underlying25 rfl (by rw [List.length_map, hpl]; exact sz_b33)) rfl ⟨rfl, nm_keeps_chg HKW.out HC.out (by omega)⟩
  · have hkey' : keyB (be l) = false := by simpa using hkey
    have e1 : pubV (be l) = zeroL33 := by unfold pubV; rw [if_neg hkey]
    have e2 : errV (be l) = 1 := by unfold errV; rw [if_neg hkey]
    rw [e1, e2]
    rw [hkey'] at HKEY
    generalize words (be l) = X at *
    clear e1 e2 hkey hkey' hx
    go_enter Try.func10, Try.ntmps10
    go_upto_region 1 with (fail)
    refine cu_rows2 (fun W hk hr hr2 hs => ?_)
    obtain ⟨p, hp⟩ : ∃ p, p = w.heap.size := ⟨_, rfl⟩
    rw [← hp] at hr hr2 hs ⊢
    have hkp : w.heap.size ≤ p := by omega
    obtain ⟨Zr, hZr, hrz⟩ : ∃ Zr : List Value, Zr.length = 33 ∧ Row W (p + 1) 0 Zr := ⟨_, rfl, hr2⟩
    have HR := Lib.hid (show Row W p 0 (l.map (Value.int .u8)) from hr); have HKW := Lib.hid hk; have HRres := Lib.hid hrz
    clear hp hk hr hr2 hrz hs
    go_upto_region 2 with (go_at_call 28; refine (HCV.out _).mono ?_; rintro e W1 ⟨g, rfl, hk1, hgg, hrow⟩; have HK1 := Lib.hid hk1; have HROW := Lib.hid hrow; clear hk1 hrow)
    have HR := Lib.hid (HR.out.keeps HK1.out)
    go_upto_region 3 with (first | (refine wpList_load_at rfl 22 (.tmp 1) rfl _ 0 rfl (l.map (Value.int .u8)) _ HR.out Try.underlying22 rfl (by rw [List.length_map, hl]; exact sz_b32') ?_) | (go_at_call 29; refine (HKEY.out g _ HROW.out).mono ?_; rintro e W2 ⟨rfl, hk2⟩; have HK2 := Lib.hid hk2; clear hk2) | (refine wpList_store_row rfl 69 (.tmp 5) (.tmp 12) rfl W2.heap.size 0 rfl zeros4 (X.map (Value.int .u64)) rfl (Row.new _ _ _ rfl) (by rw [List.length_map, hwl]; rfl) (by rw [List.length_map, hwl]; exact sz_cnum) (int_oneCell _) ?_; intro W3 hr2 hc2; have HK3 := Lib.hid (nm_keeps_chg (nm_keeps_alloc HK2.out _) hc2 HK2.out.size); clear hr2 hc2))
    have HKA := Lib.hid (HK1.out.trans HK3.out)
    have HRres := Lib.hid (HRres.out.keeps HKA.out)
    have HKW := Lib.hid (HKW.out.trans HKA.out)
    go_wp2_with (refine wpList_store_row rfl 25 (.tmp 2) (.tmp 16) rfl _ 0 rfl Zr (zeroL33.map (Value.int .u8)) rfl HRres.out (by rw [hZr]; rfl) sz_b33 (int_oneCell _) ?_; intro W8 hr2 hc2; have HN := Lib.hid hr2; have HC := Lib.hid hc2; clear hr2 hc2)
    exact bodyPost_ret (results_cell_tmpB (p := 2) (t := 3) (ty := 25) rfl _ _ (p + 1) 0 _ _ _ rfl rfl HN.out Try.underlying25 rfl sz_b33) rfl ⟨rfl, nm_keeps_chg HKW.out HC.out (by omega)⟩
def key1 : List Int := [0, 0, 0, 0, 0, 0, 0, 0, 0, 0, 0, 0, 0, 0, 0, 0, 0, 0, 0, 0, 0, 0, 0, 0, 0, 0, 0, 0, 0, 0, 0, 1]
def key0 : List Int := List.replicate 32 0
theorem key1_be : be key1 = 1 := by decide
theorem key0_be : be key0 = 0 := by decide
theorem pub1 : pubV 1 = pkB gxN gyN := by
  have h1 : keyB 1 = true := by decide
  have hf := flatJ_eq (timesJ_ok 1 gJ_ok 256) (times_n gJ_ok g_on gJ_jr (by decide : 1 < 2 ^ 256))
  unfold pubV
  rw [if_pos h1]
  unfold pubB
  rw [show (1 : Int).toNat = 1 by decide, hf, mul_one]
  have ex : (fp gxN).val = gxN := by rw [fof_val]; decide
  have ey : (fp gyN).val = gyN := by rw [fof_val]; decide
  show pkB (fp gxN).val (fp gyN).val = _
  rw [ex, ey]
theorem pub1_0 : (pubV 1).getD 0 0 = 2 ∧ (pubV 1).getD 1 0 = 121 ∧ (pubV 1).getD 32 0 = 152 := by rw [pub1]; decide +kernel
set_option maxRecDepth 100000 in
set_option maxHeartbeats 4000000 in
theorem awake_any (w : World) : Calls Try.prog 9 #[] w fun e w' => e = .returned (.bool true) ∧ Keeps w w' := by
  have hb1 : Bytes key1 := by unfold Bytes Byte key1; decide
  have hb0 : Bytes key0 := fun x hx => by rw [(List.mem_replicate.1 (show x ∈ List.replicate 32 0 from hx)).2]; exact ⟨by omega, by omega⟩
  have HPU := Lib.hid (public_any key1 hb1 rfl)
  have HV1 := Lib.hid (valid_any key1 hb1 rfl)
  have HV0 := Lib.hid (valid_any key0 hb0 rfl)
  rw [key1_be, show errV 1 = 0 by decide] at HPU
  rw [key1_be, show keyB 1 = true by decide] at HV1
  rw [key0_be, show keyB 0 = false by decide] at HV0
  rw [show (key1.map (Value.int .u8)).toArray = #[.int .u8 0, .int .u8 0, .int .u8 0, .int .u8 0, .int .u8 0, .int .u8 0, .int .u8 0, .int .u8 0, .int .u8 0, .int .u8 0, .int .u8 0, .int .u8 0, .int .u8 0, .int .u8 0, .int .u8 0, .int .u8 0, .int .u8 0, .int .u8 0, .int .u8 0, .int .u8 0, .int .u8 0, .int .u8 0, .int .u8 0, .int .u8 0, .int .u8 0, .int .u8 0, .int .u8 0, .int .u8 0, .int .u8 0, .int .u8 0, .int .u8 0, .int .u8 1] from rfl] at HV1
  rw [show (key0.map (Value.int .u8)).toArray = #[.int .u8 0, .int .u8 0, .int .u8 0, .int .u8 0, .int .u8 0, .int .u8 0, .int .u8 0, .int .u8 0, .int .u8 0, .int .u8 0, .int .u8 0, .int .u8 0, .int .u8 0, .int .u8 0, .int .u8 0, .int .u8 0, .int .u8 0, .int .u8 0, .int .u8 0, .int .u8 0, .int .u8 0, .int .u8 0, .int .u8 0, .int .u8 0, .int .u8 0, .int .u8 0, .int .u8 0, .int .u8 0, .int .u8 0, .int .u8 0, .int .u8 0, .int .u8 0] from rfl] at HV0
  obtain ⟨p0, p1, p2⟩ := pub1_0
  have hpl := pubV_len 1
  generalize pubV 1 = PB at *
  clear hb1 hb0
  go_enter Try.func9, Try.ntmps9
  go_upto_region 2 with (first | (go_at_call 10; refine (HPU.out _).mono ?_; rintro e W1 ⟨rfl, hk1⟩; have HK1 := Lib.hid hk1; clear hk1) | (refine wpList_store_row rfl 25 (.tmp 1) (.tmp 6) rfl W1.heap.size 0 rfl (zeroL33.map (Value.int .u8)) (PB.map (Value.int .u8)) rfl (Row.new _ _ _ rfl) (by rw [List.length_map, hpl]; rfl) (by rw [List.length_map, hpl]; exact sz_b33) (int_oneCell _) ?_; intro W3 hr2 hc2; have HRX := Lib.hid hr2; have HK3 := Lib.hid (nm_keeps_chg (nm_keeps_alloc HK1.out _) hc2 HK1.out.size); clear hr2 hc2))
  generalize W1.heap.size = q at *
  have c0 := HRX.out.int0 0 (by omega)
  have c1 := HRX.out.int0 1 (by omega)
  have c2 := HRX.out.int0 32 (by omega)
  rw [p0] at c0; rw [p1] at c1; rw [p2] at c2
  clear p0 p1 p2
  go_wp2_with (first | (go_at_call 12; first | ((with_reducible refine (HV1.out _).mono ?_); rintro e W4 ⟨rfl, hk1⟩; have HK4 := Lib.hid (HK3.out.trans hk1); clear hk1) | ((with_reducible refine (HV0.out _).mono ?_); rintro e W5 ⟨rfl, hk1⟩; have HK5 := Lib.hid (HK4.out.trans hk1); clear hk1)))
  go_ret
  exact ⟨by first | rfl | exact ret_bool (by simp), HK5.out⟩
end Go.Proofs.Ytajipagpdphejaa
namespace Go.Proofs.Ytajipagpdphejaa
set_option linter.unusedVariables false
set_option linter.unusedSimpArgs false
open Go Go.RowKit

/-- the first i of a list, then noughts, N in all -/
def sp_upto0 (l : List Int) (N i : Nat) : List Int := l.take i ++ List.replicate (N - i) 0
theorem sp_upto0_zero (l : List Int) (N : Nat) : sp_upto0 l N 0 = List.replicate N 0 := by simp [sp_upto0]
theorem sp_upto0_full (l : List Int) (N : Nat) (h : l.length = N) : sp_upto0 l N N = l := by simp [sp_upto0, ← h]
theorem sp_upto0_length (l : List Int) (N i : Nat) (h : l.length = N) (hi : i ≤ N) : (sp_upto0 l N i).length = N := by simp [sp_upto0, h]; omega
theorem sp_upto0_set (l : List Int) (N i : Nat) (h : l.length = N) (hi : i < N) : (sp_upto0 l N i).set i (l.getD i 0) = sp_upto0 l N (i + 1) := by
  have hl : i < l.length := by omega
  unfold sp_upto0
  have e : i - (l.take i).length = 0 := by simp; omega
  rw [List.set_append_right _ _ (by simp; omega), e, show N - i = (N - (i + 1)) + 1 by omega, List.replicate_succ, List.set_cons_zero, List.take_succ_eq_append_getElem hl, List.append_assoc]
  simp [List.getD, hl]
/-- the nine bytes behind n -/
def spareT (n : Nat) : List Int := (List.range 9).map fun k => (201 + ((n + k : Nat) : Int)) % 256
def spareL (zs : List Int) (n : Nat) : List Int := zs ++ spareT n
theorem spareL_length (zs : List Int) (n : Nat) (h : zs.length = n) : (spareL zs n).length = n + 9 := by simp [spareL, spareT, h]
theorem spareL_lo (zs : List Int) (n i : Nat) (h : zs.length = n) (hi : i < n) : (spareL zs n).getD i 0 = zs.getD i 0 := by
  simp [spareL, List.getD, List.getElem?_append_left, h, hi]
theorem spareL_hi (zs : List Int) (n i : Nat) (h : zs.length = n) (hi : n ≤ i) (h9 : i < n + 9) : (spareL zs n).getD i 0 = (201 + (i : Int)) % 256 := by
  have e : n + (i - n) = i := by omega
  simp only [spareL, List.getD]
  rw [List.getElem?_append_right (by omega), h]
  simp [spareT, show i - n < 9 by omega, e]
  omega
theorem sp_rd_form {W : World} {v : Value} {n : Nat} {xs : List Value} (h : Rd W 1 v n xs) : ∃ a cap, v = .slice a n cap ∧ n ≤ cap ∧ cap ≤ maxLen ∧ (0 < n → ∃ g off, a = some ⟨g, off, none⟩ ∧ Row W g off xs) := by
  obtain ⟨_, a, cap, rfl, h2, h3, h4, h5⟩ := h
  refine ⟨a, cap, rfl, h2, h3, fun hn => ?_⟩
  cases a with
  | none => have := (h4 rfl).1; omega
  | some ad =>
    obtain ⟨g, off, rfl, _, hr⟩ := h5 ad rfl hn
    exact ⟨g, off, rfl, hr⟩
set_option maxRecDepth 100000 in
theorem spare_any (v : Value) (n : Nat) (zs : List Int) (w : World) (hr : Rd w 1 v n (zs.map (Value.int .u8))) (hn : n ≤ 35184372088832) :
    Calls Try.prog 14 #[v] w fun e w' => e = .returned (.tuple #[.slice (some ⟨w.heap.size, 0, none⟩) n (n + 9), .slice (some ⟨w.heap.size, 0, none⟩) (n + 9) (n + 9)]) ∧ Keeps w w' ∧ w.heap.size < w'.heap.size ∧ Row w' w.heap.size 0 ((spareL zs n).map (Value.int .u8)) := by
  have hzl : zs.length = n := by have := hr.1; simpa using this
  obtain ⟨i0, hi, hz0, hz1, hz2⟩ := info_parts u8_info
  obtain ⟨a, cap, rfl, hc1, hc2, hrow⟩ := sp_rd_form hr
  have hlen := spareL_length zs n hzl
  have hlo := spareL_lo zs n
  have hhi := spareL_hi zs n
  have hRB : ∀ g off, a = some ⟨g, off, none⟩ → 0 < n → g < w.heap.size := by
    intro g off e h0
    obtain ⟨_, a', cap', e1, _, _, _, h5⟩ := hr
    cases e1
    obtain ⟨g', off', e2, hg, _⟩ := h5 _ e h0
    cases e2; exact hg
  have HRW := Lib.hid hrow; have HLO := Lib.hid hlo; have HHI := Lib.hid hhi; have HZL := Lib.hid hzl; have HLEN := Lib.hid hlen
  clear hr hrow hlo hhi hzl hlen
  generalize spareL zs n = L at *
  go_enter Try.func14, Try.ntmps14
  go_wp2_with (refine wpList_make_row rfl 23 (.tmp 8) (.tmp 8) rfl 5 i0 (.int .u8 0) 1 Try.underlying23 hi hz0 hz1 hz2 rfl .i64 .i64 _ (n + 9) rfl rfl (by omega) (by omega) (by unfold maxLen; omega) ?_; intro w1 hr hk hsz; have HR := Lib.hid hr; clear hr)
  obtain ⟨q, hq⟩ : ∃ q, q = w.heap.size := ⟨_, rfl⟩
  rw [← hq] at HR hsz ⊢
  have HQ := Lib.hid hq
  clear hq
  go_loopw [5] (fun c wr => ∃ i : Nat, i ≤ n + 9 ∧ c = .int .i64 i ∧ Keeps w wr ∧ q < wr.heap.size ∧ Row wr q 0 ((sp_upto0 L (n + 9) i).map (Value.int .u8))) (fun c _ => (n + 9 - intOf c).toNat)
  case atStart => exact ⟨0, by omega, rfl, hk, hsz, by rw [sp_upto0_zero]; simpa using HR.out⟩
  case round =>
    obtain ⟨i, hi9, rfl, hk2, hsz2, hrt⟩ := hrel
    by_cases hlt : i < n + 9
    · have hce := hrt.int0 i (by rw [sp_upto0_length _ _ _ HLEN.out hi9]; omega)
      have hfr := hrt.free0 i (by rw [List.length_map, sp_upto0_length _ _ _ HLEN.out hi9]; omega)
      have hset : ∀ x, x = L.getD i 0 → Row (wr.setCell ⟨q, i, none⟩ (.int .u8 x)) q 0 ((sp_upto0 L (n + 9) (i + 1)).map (Value.int .u8)) := by
        intro x hx; subst hx
        have := hrt.setInt0 i (by rw [sp_upto0_length _ _ _ HLEN.out hi9]; omega) (L.getD i 0)
        rwa [sp_upto0_set _ _ _ HLEN.out hlt] at this
      by_cases hin : i < n
      · obtain ⟨g, off, rfl, hrw⟩ := HRW.out (by omega)
        have hcz := (hrw.keeps hk2).int i (by rw [HZL.out]; exact hin)
        have hgq : g ≠ q := by have := hRB g off rfl (by omega); have := HQ.out; omega
        have hset2 : ∀ y, Row ((wr.setCell ⟨q, i, none⟩ (.int .u8 y)).setCell ⟨q, i, none⟩ (.int .u8 (zs.getD i 0))) q 0 ((sp_upto0 L (n + 9) (i + 1)).map (Value.int .u8)) := by
          intro y
          have h1 := hrt.setInt0 i (by rw [sp_upto0_length _ _ _ HLEN.out hi9]; omega) y
          have h2 := h1.setInt0 i (by rw [List.length_set, sp_upto0_length _ _ _ HLEN.out hi9]; omega) (zs.getD i 0)
          rw [List.set_set, ← HLO.out i HZL.out hin, sp_upto0_set _ _ _ HLEN.out hlt] at h2
          rw [HLO.out i HZL.out hin] at h2
          exact h2
        have HS2 := Lib.hid hset2; have HK2 := Lib.hid hk2
        clear hset hset2 hrt hk2 hrw
        generalize zs.getD i 0 = z at *
        go_wp2
        go_roundw
        case rel => exact ⟨i + 1, by omega, by go_num, Below.setCell (p := ⟨q, i, none⟩) (Below.setCell (p := ⟨q, i, none⟩) HK2.out (show w.heap.size ≤ q by have := HQ.out; omega) _) (show w.heap.size ≤ q by have := HQ.out; omega) _, by simpa using hsz2, HS2.out _⟩
        case measure => simp [intOf]; omega
      · have HST := Lib.hid (fun x (hx : x = (201 + (i : Int)) % 256) => hset x (by rw [HHI.out i HZL.out (by omega) hlt]; exact hx)); have HK2 := Lib.hid hk2
        clear hset hrt hk2
        go_wp2
        go_roundw
        case rel => exact ⟨i + 1, by omega, by go_num, Below.setCell (p := ⟨q, i, none⟩) HK2.out (show w.heap.size ≤ q by have := HQ.out; omega) _, by simpa using hsz2, HST.out _ (by omega)⟩
        case measure => simp [intOf]; omega
    · obtain rfl : i = n + 9 := by omega
      rw [sp_upto0_full _ _ HLEN.out] at hrt
      have HRT := Lib.hid hrt; have HK2 := Lib.hid hk2
      clear hrt hk2
      go_wp2
      go_ret2
      have hq := HQ.out
      subst hq
      exact ⟨rfl, HK2.out, hsz2, HRT.out⟩
set_option maxRecDepth 100000 in
set_option maxHeartbeats 1000000 in
theorem kept_any (v : Value) (n q cap : Nat) (zs : List Int) (w : World) (hr : Rd w 1 v n (zs.map (Value.int .u8))) (hn : n ≤ 35184372088832) (hq : Row w q 0 ((spareL zs n).map (Value.int .u8))) :
    Calls Try.prog 16 #[.slice (some ⟨q, 0, none⟩) (n + 9) cap, v] w fun e w' => e = .returned (.bool true) ∧ Qt w w' := by
  have hzl : zs.length = n := by have := hr.1; simpa using this
  obtain ⟨a, cp, rfl, hc1, hc2, hrow⟩ := sp_rd_form hr
  have hlen := spareL_length zs n hzl
  have hlo := spareL_lo zs n
  have hhi := spareL_hi zs n
  have HRW := Lib.hid hrow; have HLO := Lib.hid hlo; have HHI := Lib.hid hhi; have HZL := Lib.hid hzl; have HLEN := Lib.hid hlen; have HQ := Lib.hid hq
  clear hr hrow hlo hhi hzl hlen hq
  generalize spareL zs n = L at *
  go_enter Try.func16, Try.ntmps16
  go_wp2
  go_loopw [5] (fun c wr => ∃ i : Nat, i ≤ n + 9 ∧ c = .int .i64 i ∧ Qt w wr) (fun c _ => (n + 9 - intOf c).toNat)
  case atStart => exact ⟨0, by omega, rfl, Qt.refl _⟩
  case round =>
    obtain ⟨i, hi9, rfl, m, rfl⟩ := hrel
    by_cases hlt : i < n + 9
    · have hce := HQ.out.int0 i (by rw [HLEN.out]; exact hlt)
      by_cases hin : i < n
      · obtain ⟨g, off, rfl, hrw⟩ := HRW.out (by omega)
        have hcz := hrw.int i (by rw [HZL.out]; exact hin)
        rw [HLO.out i HZL.out hin] at hce
        clear hrw
        generalize zs.getD i 0 = z at *
        have hd1 : decide ((i : Int) < n) = true := by simp; omega
        have hd2 : decide ((n : Int) ≤ i) = false := by simp; omega
        have hd4 : decide (n ≤ i) = false := by simp; omega
        have hd5 : decide (i < n) = true := by simp; omega
        have hd3 : (z != z) = false := by simp
        go_wp2
        go_quiet (fail)
        go_wp2
        go_roundw
        case rel => exact ⟨i + 1, by omega, by go_num, (by repeat (first | exact Qt.refl _ | exact Qt.drewN _ _ | refine Qt.trans ?_ (Qt.drewN _ _)))⟩
        case measure => simp [intOf]; omega
      · rw [HHI.out i HZL.out (by omega) hlt] at hce
        have hd1 : decide ((i : Int) < n) = false := by simp; omega
        have hd2 : decide ((n : Int) ≤ i) = true := by simp; omega
        have hd4 : decide (n ≤ i) = true := by simp; omega
        have hd5 : decide (i < n) = false := by simp; omega
        have hd3 : ((201 + (i : Int)) % 256 != (201 + (i : Int)) % 256) = false := by simp
        go_wp2
        go_quiet (fail)
        go_wp2
        go_roundw
        case rel => exact ⟨i + 1, by omega, by go_num, (by repeat (first | exact Qt.refl _ | exact Qt.drewN _ _ | refine Qt.trans ?_ (Qt.drewN _ _)))⟩
        case measure => simp [intOf]; omega
    · obtain rfl : i = n + 9 := by omega
      go_wp2
      go_ret
      exact ⟨rfl, Qt.drewN _ _⟩
end Go.Proofs.Ytajipagpdphejaa
