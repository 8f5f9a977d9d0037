/- Both Public, and IsPublic. No condition. | A public key's bytes are its point; law05's awake. No condition. | The references' Spare and Kept, at bytes: a copy of one's own with nine bytes behind it, and whether it is still as it was. | From what a row says of an argument to what the walks ask: a slice of bytes, a slice of ints. | From what a row says of an argument to what the walks ask: an array of bytes; a slice of bytes cut short. No condition. | Both AddKey. No condition. | The reference's AddKey. No condition. | The program's AddPublic. No condition. | The reference's AddPublic. No condition. | strongboxlaw05.CurvePublics: the walk. No condition. | strongboxlaw05.CurveAdds: the walk. No condition. | strongboxlaw05.CurveAgrees: the walk. No condition. -/
import Derived.Test.YtajipagpdphejaaGD6
import Derived.Test.YtajipagpdphejaaGA4
import Derived.Test.YtajipagpdphejaaGA3
import Derived.Test.YtajipagpdphejaaRows
import Derived.ProofKit
import Derived.OpenShut
import Derived.WideKeyArr2
import Derived.ChangeMaps5
import Derived.Test.YtajipagpdphejaaGB5
namespace Go.Proofs.Ytajipagpdphejaa
set_option linter.unusedVariables false
set_option linter.unusedSimpArgs false
open Go Go.RowKit Cv

/-- the public key of a number, as bytes -/
def pubB (k : Nat) : List Int := pkB (flatJ (timesJ k gJ 256)).1 (flatJ (timesJ k gJ 256)).2
theorem pkB_len (x y : Nat) : (pkB x y).length = 33 := by unfold pkB; rw [List.length_cons, toB_length]
theorem pubB_len (k : Nat) : (pubB k).length = 33 := pkB_len _ _
def zeroL33 : List Int := List.replicate 33 0
def pubV (x : Int) : List Int := if keyB x = true then pubB x.toNat else zeroL33
theorem pubV_len (x : Int) : (pubV x).length = 33 := by
  unfold pubV
  split
  · exact pubB_len _
  · rfl
def errV (x : Int) : Int := if keyB x = true then 0 else 1
theorem key_lt {x : Int} (h : keyB x = true) : 0 < x ∧ x < NV := by
  unfold keyB at h
  rwa [decide_eq_true_eq] at h
set_option maxRecDepth 100000 in
set_option maxHeartbeats 4000000 in
theorem public_any (l : List Int) (hb : Bytes l) (hl : l.length = 32) (w : World) :
    Calls Try.prog 10 #[.agg (l.map (Value.int .u8)).toArray] w fun e w' => e = .returned (.tuple #[.agg ((pubV (be l)).map (Value.int .u8)).toArray, .int .i64 (errV (be l))]) ∧ Keeps w w' := by
  have HKEY := Lib.hid (fun g W hr => gkey_any g l hb hl W hr)
  have HCV := Lib.hid curve_any
  have hwl := words_length (be l)
  have hx := be_u256 hb hl
  by_cases hkey : keyB (be l) = true
  · have h1 := key_lt hkey
    have HBASE := Lib.hid (fun g W hr => base_any g W hr)
    have HTIM := Lib.hid (fun g W hr => times_any g (be l).toNat gJ (by have := h1.2; have := nv_eq; have := n_lt; omega) gJ_ok W hr)
    have hnw : words (be l) = nw (be l).toNat := by unfold nw; rw [Int.toNat_of_nonneg (by omega)]
    rw [← hnw] at HTIM
    have HPAK := Lib.hid (fun g W hr => pack_any g (timesJ (be l).toNat gJ 256) (timesJ_ok _ gJ_ok 256) W hr)
    have hpl := pubB_len (be l).toNat
    rw [show pkB (flatJ (timesJ (be l).toNat gJ 256)).1 (flatJ (timesJ (be l).toNat gJ 256)).2 = pubB (be l).toNat from rfl] at HPAK
    have e1 : pubV (be l) = pubB (be l).toNat := by unfold pubV; rw [if_pos hkey]
    have e2 : errV (be l) = 0 := by unfold errV; rw [if_pos hkey]
    rw [e1, e2]
    rw [hkey] at HKEY
    generalize pubB (be l).toNat = PB at *
    generalize ptW (timesJ (be l).toNat gJ 256) = TM at *
    generalize ptW gJ = GJ at *
    generalize words (be l) = X at *
    clear e1 e2 hkey h1 hnw hx
    go_enter Try.func10, Try.ntmps10
    go_upto_region 1 with (fail)
    refine cu_rows2 (fun W hk hr hr2 hs => ?_)
    obtain ⟨p, hp⟩ : ∃ p, p = w.heap.size := ⟨_, rfl⟩
    rw [← hp] at hr hr2 hs ⊢
    have hkp : w.heap.size ≤ p := by omega
    obtain ⟨Zr, hZr, hrz⟩ : ∃ Zr : List Value, Zr.length = 33 ∧ Row W (p + 1) 0 Zr := ⟨_, rfl, hr2⟩
    have HR := Lib.hid (show Row W p 0 (l.map (Value.int .u8)) from hr); have HKW := Lib.hid hk; have HRres := Lib.hid hrz
    have hps : p + 1 < W.heap.size := by omega
    clear hp hk hr hr2 hrz hs
    go_upto_region 2 with (go_at_call 28; refine (HCV.out _).mono ?_; rintro e W1 ⟨g, rfl, hk1, hgg, hrow⟩; have HK1 := Lib.hid hk1; have HROW := Lib.hid hrow; clear hk1 hrow)
    have HR := Lib.hid (HR.out.keeps HK1.out)
    go_upto_region 3 with (first | (refine wpList_load_at rfl 22 (.tmp 1) rfl _ 0 rfl (l.map (Value.int .u8)) _ HR.out Try.underlying22 rfl (by rw [List.length_map, hl]; exact sz_b32') ?_) | (go_at_call 29; refine (HKEY.out g _ HROW.out).mono ?_; rintro e W2 ⟨rfl, hk2⟩; have HK2 := Lib.hid hk2; clear hk2) | (refine wpList_store_row rfl 69 (.tmp 5) (.tmp 12) rfl W2.heap.size 0 rfl zeros4 (X.map (Value.int .u64)) rfl (Row.new _ _ _ rfl) (by rw [List.length_map, hwl]; rfl) (by rw [List.length_map, hwl]; exact sz_cnum) (int_oneCell _) ?_; intro W3 hr2 hc2; have HRX := Lib.hid hr2; have HK3 := Lib.hid (nm_keeps_chg (nm_keeps_alloc HK2.out _) hc2 HK2.out.size); clear hr2 hc2))
    generalize W2.heap.size = q at *
    have HROW := Lib.hid (HROW.out.keeps HK3.out)
    have HKA := Lib.hid (HK1.out.trans HK3.out)
    have HRres := Lib.hid (HRres.out.keeps HKA.out)
    have HKW := Lib.hid (HKW.out.trans HKA.out)
    go_upto_region 5 with (fail)
    refine wp_region_keep 7 [] [0, 1, 2, 3, 4, 5, 6] (fun _ => []) (by kernel_rfl) (by kernel_rfl) (by intro i hi; cases hi) ?_
    refine keep_pure (o := ?_) (v := ?_) ?_ ?_ ?_ ?_
    rotate_left 2
    focus (simp only [kG]; exact rfl)
    focus rfl
    focus ((intro wS hS; go_simp) <;> with_reducible rfl)
    try simp only [kP]
    refine keep_pure (o := ?_) (v := ?_) ?_ ?_ ?_ ?_
    rotate_left 2
    focus (simp only [kG]; exact rfl)
    focus rfl
    focus ((intro wS hS; go_simp) <;> with_reducible rfl)
    try simp only [kP]
    refine keep_pure (o := ?_) (v := ?_) ?_ ?_ ?_ ?_
    rotate_left 2
    focus (simp only [kG]; exact rfl)
    focus rfl
    focus (intro wS hS; (refine cu_run_load 69 (.tmp 5) ?_ q 0 ?_ (X.map (Value.int .u64)) _ (HRX.out.keeps hS) Try.underlying69 rfl (by rw [List.length_map, hwl]; exact sz_cnum)) <;> rfl)
    try simp only [kP]
    refine keep_pure (o := ?_) (v := ?_) ?_ ?_ ?_ ?_
    rotate_left 2
    focus (simp only [kG]; exact rfl)
    focus rfl
    focus ((intro wS hS; go_simp) <;> with_reducible rfl)
    try simp only [kP]
    refine keep_call (o := ?_) (f := ?_) (args := ?_) (v := ?_) ?_ ?_ ?_ ?_ ?_
    rotate_left 4
    focus (simp only [kG]; exact rfl)
    focus rfl
    focus (intro wS; go_simp; refine ⟨?_, ?_⟩ <;> with_reducible rfl)
    focus (intro wS hS; exact HBASE.out g wS (HROW.out.keeps hS))
    try simp only [kP]
    refine keep_call (o := ?_) (f := ?_) (args := ?_) (v := ?_) ?_ ?_ ?_ ?_ ?_
    rotate_left 4
    focus (simp only [kG]; exact rfl)
    focus rfl
    focus (intro wS; go_simp; refine ⟨?_, ?_⟩ <;> with_reducible rfl)
    focus (intro wS hS; exact HTIM.out g wS (HROW.out.keeps hS))
    try simp only [kP]
    refine keep_call (o := ?_) (f := ?_) (args := ?_) (v := ?_) ?_ ?_ ?_ ?_ ?_
    rotate_left 4
    focus (simp only [kG]; exact rfl)
    focus rfl
    focus (intro wS; go_simp; refine ⟨?_, ?_⟩ <;> with_reducible rfl)
    focus (intro wS hS; exact HPAK.out g wS (HROW.out.keeps hS))
    try simp only [kP]
    refine keep_nil ?_
    intro GG V4 hk1 hG
    clear hG
    simp only [putsA, dstAt, Act.put, ptrV, List.drop_succ_cons, List.drop_zero, List.getElem?_toArray, List.getElem?_cons_succ, List.getElem?_cons_zero, Option.bind_some, List.setIfInBounds_toArray, List.set_cons_zero, List.set_cons_succ]
    have HRres := Lib.hid (HRres.out.keeps hk1)
    have HKW := Lib.hid (HKW.out.trans hk1)
    clear hk1
    go_wp2_with (refine wpList_store_row rfl 25 (.tmp 2) (.tmp 23) rfl _ 0 rfl Zr (PB.map (Value.int .u8)) rfl HRres.out (by rw [List.length_map, hpl, hZr]) (by rw [List.length_map, hpl]; exact sz_b33) (int_oneCell _) ?_; intro W8 hr2 hc2; have HN := Lib.hid hr2; have HC := Lib.hid hc2; clear hr2 hc2)
    exact bodyPost_ret (results_cell_tmpB (p := 2) (t := 3) (ty := 25) rfl _ _ (p + 1) 0 _ _ _ rfl rfl HN.out Try.underlying25 rfl (by rw [List.length_map, hpl]; exact sz_b33)) rfl ⟨rfl, nm_keeps_chg HKW.out HC.out (by omega)⟩
  · have hkey' : keyB (be l) = false := by simpa using hkey
    have e1 : pubV (be l) = zeroL33 := by unfold pubV; rw [if_neg hkey]
    have e2 : errV (be l) = 1 := by unfold errV; rw [if_neg hkey]
    rw [e1, e2]
    rw [hkey'] at HKEY
    generalize words (be l) = X at *
    clear e1 e2 hkey hkey' hx
    go_enter Try.func10, Try.ntmps10
    go_upto_region 1 with (fail)
    refine cu_rows2 (fun W hk hr hr2 hs => ?_)
    obtain ⟨p, hp⟩ : ∃ p, p = w.heap.size := ⟨_, rfl⟩
    rw [← hp] at hr hr2 hs ⊢
    have hkp : w.heap.size ≤ p := by omega
    obtain ⟨Zr, hZr, hrz⟩ : ∃ Zr : List Value, Zr.length = 33 ∧ Row W (p + 1) 0 Zr := ⟨_, rfl, hr2⟩
    have HR := Lib.hid (show Row W p 0 (l.map (Value.int .u8)) from hr); have HKW := Lib.hid hk; have HRres := Lib.hid hrz
    clear hp hk hr hr2 hrz hs
    go_upto_region 2 with (go_at_call 28; refine (HCV.out _).mono ?_; rintro e W1 ⟨g, rfl, hk1, hgg, hrow⟩; have HK1 := Lib.hid hk1; have HROW := Lib.hid hrow; clear hk1 hrow)
    have HR := Lib.hid (HR.out.keeps HK1.out)
    go_upto_region 3 with (first | (refine wpList_load_at rfl 22 (.tmp 1) rfl _ 0 rfl (l.map (Value.int .u8)) _ HR.out Try.underlying22 rfl (by rw [List.length_map, hl]; exact sz_b32') ?_) | (go_at_call 29; refine (HKEY.out g _ HROW.out).mono ?_; rintro e W2 ⟨rfl, hk2⟩; have HK2 := Lib.hid hk2; clear hk2) | (refine wpList_store_row rfl 69 (.tmp 5) (.tmp 12) rfl W2.heap.size 0 rfl zeros4 (X.map (Value.int .u64)) rfl (Row.new _ _ _ rfl) (by rw [List.length_map, hwl]; rfl) (by rw [List.length_map, hwl]; exact sz_cnum) (int_oneCell _) ?_; intro W3 hr2 hc2; have HK3 := Lib.hid (nm_keeps_chg (nm_keeps_alloc HK2.out _) hc2 HK2.out.size); clear hr2 hc2))
    have HKA := Lib.hid (HK1.out.trans HK3.out)
    have HRres := Lib.hid (HRres.out.keeps HKA.out)
    have HKW := Lib.hid (HKW.out.trans HKA.out)
    go_wp2_with (refine wpList_store_row rfl 25 (.tmp 2) (.tmp 16) rfl _ 0 rfl Zr (zeroL33.map (Value.int .u8)) rfl HRres.out (by rw [hZr]; rfl) sz_b33 (int_oneCell _) ?_; intro W8 hr2 hc2; have HN := Lib.hid hr2; have HC := Lib.hid hc2; clear hr2 hc2)
    exact bodyPost_ret (results_cell_tmpB (p := 2) (t := 3) (ty := 25) rfl _ _ (p + 1) 0 _ _ _ rfl rfl HN.out Try.underlying25 rfl sz_b33) rfl ⟨rfl, nm_keeps_chg HKW.out HC.out (by omega)⟩
theorem pkB_bytes (x y : Nat) : Bytes (pkB x y) := fun z hz => by
  unfold pkB at hz
  rcases List.mem_cons.1 hz with rfl | hz
  · have : y % 2 < 2 := Nat.mod_lt _ (by decide)
    exact ⟨by omega, by omega⟩
  · exact toB_bytes _ _ z hz
theorem be_toB32 {x : Int} (h : U256 x) : be (toB 32 x) = x := by
  rw [be_toB, Int.emod_eq_of_lt h.1 (Int.lt_of_lt_of_le h.2 (by decide))]
theorem fp_of_val (X : Fin PVn) : fp X.val = X := Fin.ext (by rw [fof_val, Nat.mod_eq_of_lt X.isLt])
theorem unpN_pk {x y : Nat} (hx : x < PVn) (hy : y < PVn) (h : On (fp x) (fp y)) : unpN (pkB x y) = some ⟨x, y, 1⟩ := by
  have h2 : y % 2 < 2 := Nat.mod_lt _ (by decide)
  have hd : (pkB x y).drop 1 = toB 32 (x : Int) := rfl
  have h0 : (pkB x y).getD 0 0 = 2 + ((y % 2 : Nat) : Int) := rfl
  have hbe : be (toB 32 (x : Int)) = (x : Int) := be_toB32 (nat_u256 hx)
  unfold unpN
  rw [hd, hbe, h0, if_pos ⟨pkB_len _ _, by omega, by rw [pv_eq]; exact_mod_cast hx⟩]
  have e1 : ((x : Int)).toNat = x := by omega
  have e2 : ((2 + ((y % 2 : Nat) : Int)) % 2).toNat = y % 2 := by omega
  rw [e1, e2, liftN_of hx hy h]
  rfl
/-- what a number's point is: its coordinates, where it is a key -/
theorem pub_pt {k : Nat} (h0 : 0 < k) (h : k < nVn) : ∃ x y : Nat, x < PVn ∧ y < PVn ∧ On (fp x) (fp y) ∧ mulP gP k = .aff (fp x) (fp y) ∧ flatJ (timesJ k gJ 256) = (x, y) := by
  have hf := flatJ_eq (timesJ_ok k gJ_ok 256) (times_n gJ_ok g_on gJ_jr (Nat.lt_trans h n_lt))
  have hon := gmul_on k
  cases hm : mulP gP k with
  | inf => exact absurd hm (key_ne h0 h)
  | aff X Y =>
    rw [hm] at hf hon
    have ex : fp X.val = X := fp_of_val X
    have ey : fp Y.val = Y := fp_of_val Y
    exact ⟨X.val, Y.val, X.isLt, Y.isLt, by rw [ex, ey]; exact hon, by rw [ex, ey], hf⟩
theorem unp_pub {k : Nat} (h0 : 0 < k) (h : k < nVn) : ∃ x y : Nat, unpN (pubB k) = some ⟨x, y, 1⟩ ∧ x < PVn ∧ y < PVn ∧ On (fp x) (fp y) ∧ mulP gP k = .aff (fp x) (fp y) := by
  obtain ⟨x, y, hx, hy, hon, hm, hf⟩ := pub_pt h0 h
  refine ⟨x, y, ?_, hx, hy, hon, hm⟩
  unfold pubB
  rw [hf]
  exact unpN_pk hx hy hon
def key1 : List Int := [0, 0, 0, 0, 0, 0, 0, 0, 0, 0, 0, 0, 0, 0, 0, 0, 0, 0, 0, 0, 0, 0, 0, 0, 0, 0, 0, 0, 0, 0, 0, 1]
def key0 : List Int := List.replicate 32 0
theorem key1_be : be key1 = 1 := by decide
theorem key0_be : be key0 = 0 := by decide
theorem pub1 : pubV 1 = pkB gxN gyN := by
  have h1 : keyB 1 = true := by decide
  have hf := flatJ_eq (timesJ_ok 1 gJ_ok 256) (times_n gJ_ok g_on gJ_jr (by decide : 1 < 2 ^ 256))
  unfold pubV
  rw [if_pos h1]
  unfold pubB
  rw [show (1 : Int).toNat = 1 by decide, hf, mul_one]
  have ex : (fp gxN).val = gxN := by rw [fof_val]; decide
  have ey : (fp gyN).val = gyN := by rw [fof_val]; decide
  show pkB (fp gxN).val (fp gyN).val = _
  rw [ex, ey]
theorem pub1_0 : (pubV 1).getD 0 0 = 2 ∧ (pubV 1).getD 1 0 = 121 ∧ (pubV 1).getD 32 0 = 152 := by rw [pub1]; decide +kernel
set_option maxRecDepth 100000 in
set_option maxHeartbeats 4000000 in
theorem awake_any (w : World) : Calls Try.prog 9 #[] w fun e w' => e = .returned (.bool true) ∧ Keeps w w' := by
  have hb1 : Bytes key1 := by unfold Bytes Byte key1; decide
  have hb0 : Bytes key0 := fun x hx => by rw [(List.mem_replicate.1 (show x ∈ List.replicate 32 0 from hx)).2]; exact ⟨by omega, by omega⟩
  have HPU := Lib.hid (public_any key1 hb1 rfl)
  have HV1 := Lib.hid (valid_any key1 hb1 rfl)
  have HV0 := Lib.hid (valid_any key0 hb0 rfl)
  rw [key1_be, show errV 1 = 0 by decide] at HPU
  rw [key1_be, show keyB 1 = true by decide] at HV1
  rw [key0_be, show keyB 0 = false by decide] at HV0
  rw [show (key1.map (Value.int .u8)).toArray = #[.int .u8 0, .int .u8 0, .int .u8 0, .int .u8 0, .int .u8 0, .int .u8 0, .int .u8 0, .int .u8 0, .int .u8 0, .int .u8 0, .int .u8 0, .int .u8 0, .int .u8 0, .int .u8 0, .int .u8 0, .int .u8 0, .int .u8 0, .int .u8 0, .int .u8 0, .int .u8 0, .int .u8 0, .int .u8 0, .int .u8 0, .int .u8 0, .int .u8 0, .int .u8 0, .int .u8 0, .int .u8 0, .int .u8 0, .int .u8 0, .int .u8 0, .int .u8 1] from rfl] at HV1
  rw [show (key0.map (Value.int .u8)).toArray = #[.int .u8 0, .int .u8 0, .int .u8 0, .int .u8 0, .int .u8 0, .int .u8 0, .int .u8 0, .int .u8 0, .int .u8 0, .int .u8 0, .int .u8 0, .int .u8 0, .int .u8 0, .int .u8 0, .int .u8 0, .int .u8 0, .int .u8 0, .int .u8 0, .int .u8 0, .int .u8 0, .int .u8 0, .int .u8 0, .int .u8 0, .int .u8 0, .int .u8 0, .int .u8 0, .int .u8 0, .int .u8 0, .int .u8 0, .int .u8 0, .int .u8 0, .int .u8 0] from rfl] at HV0
  obtain ⟨p0, p1, p2⟩ := pub1_0
  have hpl := pubV_len 1
  generalize pubV 1 = PB at *
  clear hb1 hb0
  go_enter Try.func9, Try.ntmps9
  go_upto_region 2 with (first | (go_at_call 10; refine (HPU.out _).mono ?_; rintro e W1 ⟨rfl, hk1⟩; have HK1 := Lib.hid hk1; clear hk1) | (refine wpList_store_row rfl 25 (.tmp 1) (.tmp 6) rfl W1.heap.size 0 rfl (zeroL33.map (Value.int .u8)) (PB.map (Value.int .u8)) rfl (Row.new _ _ _ rfl) (by rw [List.length_map, hpl]; rfl) (by rw [List.length_map, hpl]; exact sz_b33) (int_oneCell _) ?_; intro W3 hr2 hc2; have HRX := Lib.hid hr2; have HK3 := Lib.hid (nm_keeps_chg (nm_keeps_alloc HK1.out _) hc2 HK1.out.size); clear hr2 hc2))
  generalize W1.heap.size = q at *
  have c0 := HRX.out.int0 0 (by omega)
  have c1 := HRX.out.int0 1 (by omega)
  have c2 := HRX.out.int0 32 (by omega)
  rw [p0] at c0; rw [p1] at c1; rw [p2] at c2
  clear p0 p1 p2
  go_wp2_with (first | (go_at_call 12; first | ((with_reducible refine (HV1.out _).mono ?_); rintro e W4 ⟨rfl, hk1⟩; have HK4 := Lib.hid (HK3.out.trans hk1); clear hk1) | ((with_reducible refine (HV0.out _).mono ?_); rintro e W5 ⟨rfl, hk1⟩; have HK5 := Lib.hid (HK4.out.trans hk1); clear hk1)))
  go_ret
  exact ⟨by first | rfl | exact ret_bool (by simp), HK5.out⟩
end Go.Proofs.Ytajipagpdphejaa
namespace Go.Proofs.Ytajipagpdphejaa
set_option linter.unusedVariables false
set_option linter.unusedSimpArgs false
open Go Go.RowKit

end Go.Proofs.Ytajipagpdphejaa
namespace Go.Proofs.Ytajipagpdphejaa
set_option linter.unusedVariables false
set_option linter.unusedSimpArgs false
open Go Go.RowKit Go.ChangeShapes Go.WideShapes Go.ChangeAt

theorem own : ownKnob Try.prog.godebug = none := by kernel_rfl
theorem laidOut : laidOutB Try.prog = true := by kernel_rfl
end Go.Proofs.Ytajipagpdphejaa
namespace Go.Proofs.Ytajipagpdphejaa
set_option linter.unusedVariables false
set_option linter.unusedSimpArgs false
open Go Go.RowKit Go.ChangeShapes Go.WideShapes Go.ChangeAt Go.WideMaps Go.ChangeMaps

theorem someTypes : ∃ m, Try.prog.types.size = m + 1 := ⟨Try.prog.types.size - 1, by have : 0 < Try.prog.types.size := of_decide_eq_true (by kernel_rfl); omega⟩
theorem mapM_some {α β : Type} (f : α → Option β) : ∀ (L : List α) (xs : List β), L.mapM f = some xs → ∀ i ∈ L, ∃ y, f i = some y
  | [], _, _, i, hi => by simp at hi
  | a :: L, xs, h, i, hi => by
    rw [List.mapM_cons] at h
    simp only [bind, Option.bind_eq_some_iff, pure, Option.some.injEq] at h
    obtain ⟨y, hy, ys, hys, rfl⟩ := h
    rcases List.mem_cons.1 hi with rfl | hi
    · exact ⟨y, hy⟩
    · exact mapM_some f L ys hys i hi
set_option maxRecDepth 100000 in
/-- an array of bytes that came in -/
theorem arr_arg {t : TypeId} {k : Nat} (hA : ArrKey Try.prog t 5 k) {H : Type} {enc : TypeId × Value → H} {W : World} {base : Nat} {v : Value} {d : DataW H} {p : List MemPlace} (hv : Value.okWide Try.prog W .any base t v) (h : DataW.Trod enc Try.prog W 0 (fun _ => true) true t v d p) :
    ∃ zs : List Int, v = .agg (zs.map (Value.int .u8)).toArray ∧ zs.length = k ∧ Bytes zs ∧ p = [] := by
  obtain ⟨xs, rfl, hn⟩ := okWide_arr hA hv
  obtain ⟨_, _, hp, _⟩ := open_arr hA Try.underlying5 someTypes hn h
  obtain ⟨fuel, hf⟩ := h
  cases fuel with
  | zero => simp [DataW.trod] at hf
  | succ m =>
    rw [DataW.trod_step] at hf
    unfold DataW.trodStep at hf
    simp only [hA.hu, Value.cells] at hf
    rw [if_pos (by rw [hA.size]; simpa using hn)] at hf
    simp only [Option.map_eq_some_iff] at hf
    obtain ⟨ys, hy, _⟩ := hf
    have hall : ∀ i, i < k → ∃ a, xs.toList[i]? = some (Value.int .u8 a) ∧ 0 ≤ a ∧ a < 256 := fun i hi => by
      obtain ⟨y, hy2⟩ := mapM_some _ _ _ hy i (List.mem_range.2 hi)
      obtain ⟨a, ea, _, wa⟩ := DataW.trod_int Try.underlying5 hy2
      rw [hA.one, Nat.mul_one] at ea
      have h0 : ((xs.toList.drop i).take 1)[0]? = some (Value.int .u8 a) := by rw [ea]; rfl
      rw [List.getElem?_take] at h0
      simp at h0
      have hb := bounds_u8 wa
      exact ⟨a, by simpa using h0, by omega, by omega⟩
    refine ⟨xs.toList.map fun v => match v with | .int _ x => x | _ => 0, ?_, by simpa using hn, ?_, hp⟩
    · congr 1
      apply Array.ext'
      apply List.ext_getElem?
      intro i
      by_cases hi : i < k
      · obtain ⟨a, ha, _⟩ := hall i hi
        rw [ha]
        simp only [List.map_map, List.getElem?_map, ha, Option.map_some, Function.comp]
      · rw [List.getElem?_eq_none (by simp; omega), List.getElem?_eq_none (by simp; omega)]
    · intro x hx
      obtain ⟨v, hv2, rfl⟩ := List.mem_map.1 hx
      obtain ⟨i, hi, e⟩ := List.getElem_of_mem hv2
      obtain ⟨a, ha, h1, h2⟩ := hall i (by simpa [hn] using hi)
      have : xs.toList[i]? = some v := by rw [List.getElem?_eq_getElem hi, e]
      rw [this] at ha
      cases ha
      exact ⟨h1, h2⟩
theorem arr32 : ArrKey Try.prog 22 5 32 := ⟨by kernel_rfl, by kernel_rfl, by kernel_rfl, by kernel_rfl⟩
theorem byte_wf {l : List Int} (h : Bytes l) : ∀ x ∈ l, (Lit.int .u8 x).wf = true := fun x hx => by
  have := h x hx
  unfold Lit.wf
  rw [Bool.and_eq_true, decide_eq_true_eq, decide_eq_true_eq]
  exact ⟨show (0 : Int) ≤ x from this.1, show x ≤ (255 : Int) by have := this.2; omega⟩
theorem pubV_bytes (x : Int) : Bytes (pubV x) := by
  unfold pubV
  split
  · exact pkB_bytes _ _
  · intro y hy
    rw [(List.mem_replicate.1 (show y ∈ List.replicate 33 0 from hy)).2]
    exact ⟨by omega, by omega⟩
end Go.Proofs.Ytajipagpdphejaa
namespace Go.Proofs.Ytajipagpdphejaa
set_option linter.unusedVariables false
set_option linter.unusedSimpArgs false
open Go Go.RowKit Cv

def zeroL32 : List Int := List.replicate 32 0
def rz8 : Array Value := #[.int .u32 0, .int .u32 0, .int .u32 0, .int .u32 0, .int .u32 0, .int .u32 0, .int .u32 0, .int .u32 0]
theorem rz8_eq : ((words8 0).map (Value.int .u32)).toArray = rz8 := by simp [rz8, words8, List.range_succ]
def zeros12 : List Value := [.int .u64 0, .int .u64 0, .int .u64 0, .int .u64 0, .int .u64 0, .int .u64 0, .int .u64 0, .int .u64 0, .int .u64 0, .int .u64 0, .int .u64 0, .int .u64 0]
def zeros24 : List Value := [.int .u32 0, .int .u32 0, .int .u32 0, .int .u32 0, .int .u32 0, .int .u32 0, .int .u32 0, .int .u32 0, .int .u32 0, .int .u32 0, .int .u32 0, .int .u32 0, .int .u32 0, .int .u32 0, .int .u32 0, .int .u32 0, .int .u32 0, .int .u32 0, .int .u32 0, .int .u32 0, .int .u32 0, .int .u32 0, .int .u32 0, .int .u32 0]
theorem alloc_cpt {o : Oper} (hg : o.guard = none) (ho : o.op = .alloc 74) : AllocsAs Try.prog o zeros12 := ⟨hg, 74, fun a w => by
  unfold execOp
  simp only [ho]
  go_simp
  exact ⟨rfl, rfl⟩⟩
theorem alloc_rpt {o : Oper} (hg : o.guard = none) (ho : o.op = .alloc 39) : AllocsAs Try.prog o zeros24 := ⟨hg, 39, fun a w => by
  unfold execOp
  simp only [ho]
  go_simp
  exact ⟨rfl, rfl⟩⟩
theorem nv_toNat {t : Int} (h0 : 0 ≤ t) (h : t < NV) : t.toNat < 2 ^ 256 ∧ t.toNat < nVn ∧ ((t.toNat : Nat) : Int) = t := by
  have := nv_eq; have := n_lt
  exact ⟨by omega, by omega, by omega⟩
theorem keyB_of {x : Int} (h0 : 0 < x) (h1 : x < NV) : keyB x = true := by
  unfold keyB
  rw [decide_eq_true_eq]
  exact ⟨h0, h1⟩
end Go.Proofs.Ytajipagpdphejaa
