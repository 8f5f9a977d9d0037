/- curve's group: unpack. No condition. | curve's group: unpack, as far as lift; and unpack_any. No condition. -/
import Derived.Test.YtajipagpdphejaaGD3
namespace Go.Proofs.Ytajipagpdphejaa
set_option linter.unusedVariables false
set_option linter.unusedSimpArgs false
open Go Go.RowKit Cv

theorem andnot_one {x : Int} (h0 : 0 ≤ x) (h1 : x < 256) : bits .andNot .u8 x 1 = x - x % 2 := by
  obtain ⟨n, rfl⟩ := Int.eq_ofNat_of_zero_le h0
  have : ∀ k : Fin 256, bits .andNot .u8 (k.val : Int) 1 = (k.val : Int) - (k.val : Int) % 2 := by decide +kernel
  exact this ⟨n, by omega⟩
theorem and_one8 {x : Int} (h0 : 0 ≤ x) (h1 : x < 256) : bits .and .u8 x 1 = x % 2 := by
  obtain ⟨n, rfl⟩ := Int.eq_ofNat_of_zero_le h0
  have : ∀ k : Fin 256, bits .and .u8 (k.val : Int) 1 = (k.val : Int) % 2 := by decide +kernel
  exact this ⟨n, by omega⟩
def zero12 : List Int := List.replicate 12 0
set_option maxRecDepth 100000 in
set_option maxHeartbeats 4000000 in
theorem unplen_walk (gv : Value) (sa : Option Addr) (n cap : Nat) (hn : ¬ n = 33) (hn2 : (n : Int) < 9223372036854775808) (w : World) :
    Calls Try.prog 37 #[gv, .slice sa n cap] w fun e w' => e = .returned (.tuple #[.agg (zero12.map (Value.int .u64)).toArray, .bool false]) ∧ Keeps w w' := by
  have z1 : ((n : Int) != 33) = true := by rw [bne_iff_ne]; omega
  go_enter Try.func37, Try.ntmps37
  go_upto_region 1 with (fail)
  refine cu_rows1 (fun W hk hra hs => ?_)
  obtain ⟨p, hp⟩ : ∃ p, p = w.heap.size := ⟨_, rfl⟩
  rw [← hp] at hra hs ⊢
  have hkp : w.heap.size ≤ p := by omega
  obtain ⟨Zr, hZr, hrz⟩ : ∃ Zr : List Value, Zr.length = 12 ∧ Row W p 0 Zr := ⟨_, rfl, hra⟩
  have HKW := Lib.hid hk; have HRres := Lib.hid hrz
  clear hp hra hrz hk hs
  go_wp2_with (refine wpList_store_row rfl 74 (.tmp 4) (.tmp 17) rfl _ 0 rfl Zr (zero12.map (Value.int .u64)) rfl HRres.out (by rw [hZr]; rfl) sz_cpt (int_oneCell _) ?_; intro W2 hr2 hc2; have HN := Lib.hid hr2; have HC := Lib.hid hc2; clear hr2 hc2)
  exact bodyPost_ret (results_cell_tmpB (p := 4) (t := 5) (ty := 74) rfl _ _ p 0 _ _ _ rfl rfl HN.out Try.underlying74 rfl sz_cpt) rfl ⟨rfl, nm_keeps_chg HKW.out HC.out (by omega)⟩
set_option maxRecDepth 100000 in
set_option maxHeartbeats 4000000 in
theorem unpb0_walk (gv : Value) (g off cap : Nat) (l : List Int) (hl : l.length = 33) (hb : Bytes l) (hbad : ¬ l.getD 0 0 - l.getD 0 0 % 2 = 2) (w : World) (hg : Row w g off (l.map (Value.int .u8))) :
    Calls Try.prog 37 #[gv, .slice (some ⟨g, off, none⟩) 33 cap] w fun e w' => e = .returned (.tuple #[.agg (zero12.map (Value.int .u64)).toArray, .bool false]) ∧ Keeps w w' := by
  have hb0 := hb.getD 0
  have HG := Lib.hid hg
  have hl0 : 0 < l.length := by omega
  clear hg hb
  go_enter Try.func37, Try.ntmps37
  go_upto_region 1 with (fail)
  refine cu_rows1 (fun W hk hra hs => ?_)
  obtain ⟨p, hp⟩ : ∃ p, p = w.heap.size := ⟨_, rfl⟩
  rw [← hp] at hra hs ⊢
  have hkp : w.heap.size ≤ p := by omega
  obtain ⟨Zr, hZr, hrz⟩ : ∃ Zr : List Value, Zr.length = 12 ∧ Row W p 0 Zr := ⟨_, rfl, hra⟩
  have HKW := Lib.hid hk; have HRres := Lib.hid hrz
  have c0 := (HG.out.keeps hk).int 0 hl0
  rw [Nat.add_zero] at c0
  clear hp hra hrz hk hs HG hl0 hl
  generalize l.getD 0 0 = b0 at *
  have hand : bits .andNot .u8 b0 1 = b0 - b0 % 2 := andnot_one hb0.1 (by have := hb0.2; omega)
  have z1 : (b0 - b0 % 2 != 2) = true := by rw [bne_iff_ne]; exact hbad
  clear hbad hb0
  go_wp2_with (refine wpList_store_row rfl 74 (.tmp 4) (.tmp 17) rfl _ 0 rfl Zr (zero12.map (Value.int .u64)) rfl HRres.out (by rw [hZr]; rfl) sz_cpt (int_oneCell _) ?_; intro W2 hr2 hc2; have HN := Lib.hid hr2; have HC := Lib.hid hc2; clear hr2 hc2)
  exact bodyPost_ret (results_cell_tmpB (p := 4) (t := 5) (ty := 74) rfl _ _ p 0 _ _ _ rfl rfl HN.out Try.underlying74 rfl sz_cpt) rfl ⟨rfl, nm_keeps_chg HKW.out HC.out (by omega)⟩
set_option maxRecDepth 100000 in
set_option maxHeartbeats 8000000 in
theorem unpx_walk (gg g off cap : Nat) (l XL : List Int) (hl : l.length = 33) (hb : Bytes l) (hok : l.getD 0 0 - l.getD 0 0 % 2 = 2) (lXL : XL.length = 4) (w : World) (hg : Row w g off (l.map (Value.int .u8))) (hcap : 33 ≤ cap) (hcap2 : cap < 9223372036854775808)
    (hN : ∀ v W, Rd W 1 v 32 ((l.drop 1).map (Value.int .u8)) → Calls Try.prog 44 #[v] W fun e w' => e = .returned (.agg (XL.map (Value.int .u64)).toArray) ∧ Keeps W w')
    (hB : ∀ W, Keeps w W → Calls Try.prog 52 #[.pointer (some ⟨gg, 0, none⟩), .agg (XL.map (Value.int .u64)).toArray] W fun e w' => e = .returned (.bool false) ∧ Keeps W w') :
    Calls Try.prog 37 #[.pointer (some ⟨gg, 0, none⟩), .slice (some ⟨g, off, none⟩) 33 cap] w fun e w' => e = .returned (.tuple #[.agg (zero12.map (Value.int .u64)).toArray, .bool false]) ∧ Keeps w w' := by
  have HNM := Lib.hid hN; have HBL := Lib.hid hB; clear hN hB
  have hb0 := hb.getD 0
  have HG := Lib.hid hg
  have hl0 : 0 < l.length := by omega
  have hgl : g < w.heap.size := hg.lt (by intro e; have := congrArg List.length e; rw [List.length_map, hl] at this; cases this)
  have HL := Lib.hid hl
  clear hg hb hl
  go_enter Try.func37, Try.ntmps37
  go_upto_region 1 with (fail)
  refine cu_rows1 (fun W hk hra hs => ?_)
  obtain ⟨p, hp⟩ : ∃ p, p = w.heap.size := ⟨_, rfl⟩
  rw [← hp] at hra hs hgl ⊢
  have hkp : w.heap.size ≤ p := by omega
  obtain ⟨Zr, hZr, hrz⟩ : ∃ Zr : List Value, Zr.length = 12 ∧ Row W p 0 Zr := ⟨_, rfl, hra⟩
  have HKW := Lib.hid hk; have HRres := Lib.hid hrz
  have HC0 := Lib.hid (fun W' (hk' : Keeps w W') => (HG.out.keeps hk').int 0 hl0)
  have c0 := HC0.out W hk
  rw [Nat.add_zero] at c0
  have HR1 := Lib.hid (show Row W g (off + 1) ((l.drop 1).map (Value.int .u8)) by have := (HG.out.keeps hk).drop 1; rwa [← List.map_drop] at this)
  have HL1 := Lib.hid (show (l.drop 1).length = 32 by rw [List.length_drop, HL.out])
  have hgW : g < W.heap.size := by omega
  clear hp hra hrz hk hs hl0
  generalize hB0 : l.getD 0 0 = b0 at *
  have HB0 := Lib.hid hB0
  generalize l.drop 1 = LD at *
  have hand : bits .andNot .u8 b0 1 = b0 - b0 % 2 := andnot_one hb0.1 (by have := hb0.2; omega)
  have z1 : (b0 - b0 % 2 != 2) = false := by rw [bne_eq_false_iff_eq]; exact hok
  have HBR := Lib.hid hb0
  clear hok hb0 hB0
  go_upto_region 4 with (first | (go_at_call 44; refine (HNM.out _ _ (Rd.of_row HR1.out (by simp [HL1.out]) hgW (by omega) (by unfold maxLen; omega))).mono ?_; rintro e V1 ⟨rfl, hk1⟩; have HV1 := Lib.hid hk1; clear hk1) | (refine wpList_store_row rfl 69 (.tmp 6) (.tmp 20) rfl V1.heap.size 0 rfl zeros4 (XL.map (Value.int .u64)) rfl (Row.new _ _ _ rfl) (by rw [List.length_map, lXL]; rfl) (by rw [List.length_map, lXL]; exact sz_cnum) (int_oneCell _) ?_; intro W2 hr2 hc2; have HN := Lib.hid hr2; have HK2 := Lib.hid (nm_keeps_chg (nm_keeps_alloc HV1.out _) hc2 HV1.out.size); clear hr2 hc2))
  have hq : W.heap.size ≤ V1.heap.size := HV1.out.size
  have hpq : p < V1.heap.size := Nat.lt_of_lt_of_le (HRres.out.lt (by intro e; rw [e] at hZr; cases hZr)) hq
  generalize V1.heap.size = q at *
  have HRres := Lib.hid (HRres.out.keeps HK2.out)
  have HKW := Lib.hid (HKW.out.trans HK2.out)
  have HRX := HN
  refine wp_region_keep 5 [] [0, 1, 2, 3, 4] (fun _ => zeros4) (by kernel_rfl) (by kernel_rfl) (by intro i hi; cases hi) ?_
  refine keep_pure (o := ?_) (v := ?_) ?_ ?_ ?_ ?_
  rotate_left 2
  focus (simp only [kG]; exact rfl)
  focus rfl
  focus ((intro wS hS; go_simp) <;> with_reducible rfl)
  try simp only [kP]
  refine keep_pure (o := ?_) (v := ?_) ?_ ?_ ?_ ?_
  rotate_left 2
  focus (simp only [kG]; exact rfl)
  focus rfl
  focus ((intro wS hS; go_simp) <;> with_reducible rfl)
  try simp only [kP]
  refine keep_pure (o := ?_) (v := ?_) ?_ ?_ ?_ ?_
  rotate_left 2
  focus (simp only [kG]; exact rfl)
  focus rfl
  focus ((intro wS hS; go_simp) <;> with_reducible rfl)
  try simp only [kP]
  refine keep_pure (o := ?_) (v := ?_) ?_ ?_ ?_ ?_
  rotate_left 2
  focus (simp only [kG]; exact rfl)
  focus rfl
  focus (intro wS hS; (refine cu_run_load 69 (.tmp 6) ?_ q 0 ?_ (XL.map (Value.int .u64)) _ (HRX.out.keeps hS) Try.underlying69 rfl (by rw [List.length_map, lXL]; exact sz_cnum)) <;> rfl)
  try simp only [kP]
  refine keep_call (o := ?_) (f := ?_) (args := ?_) (v := ?_) ?_ ?_ ?_ ?_ ?_
  rotate_left 4
  focus (simp only [kG]; exact rfl)
  focus rfl
  focus (intro wS; go_simp; refine ⟨?_, ?_⟩ <;> with_reducible rfl)
  focus (intro wS hS; exact HBL.out wS (HKW.out.trans hS))
  try simp only [kP]
  refine keep_nil ?_
  intro GG V2 hk1 hG
  clear hG
  simp only [putsA, dstAt, Act.put, ptrV, List.drop_succ_cons, List.drop_zero, List.getElem?_toArray, List.getElem?_cons_succ, List.getElem?_cons_zero, Option.bind_some, List.setIfInBounds_toArray, List.set_cons_zero, List.set_cons_succ]
  have HRres := Lib.hid (HRres.out.keeps hk1)
  have HKW := Lib.hid (HKW.out.trans hk1)
  have HRX := Lib.hid (HRX.out.keeps hk1)
  clear hk1
  go_wp2_with (refine wpList_store_row rfl 74 (.tmp 4) (.tmp 27) rfl _ 0 rfl Zr (zero12.map (Value.int .u64)) rfl HRres.out (by rw [hZr]; rfl) sz_cpt (int_oneCell _) ?_; intro W2 hr2 hc2; have HN := Lib.hid hr2; have HC := Lib.hid hc2; clear hr2 hc2)
  exact bodyPost_ret (results_cell_tmpB (p := 4) (t := 5) (ty := 74) rfl _ _ p 0 _ _ _ rfl rfl HN.out Try.underlying74 rfl sz_cpt) rfl ⟨rfl, nm_keeps_chg HKW.out HC.out (by omega)⟩
set_option maxRecDepth 100000 in
set_option maxHeartbeats 8000000 in
theorem unpok_walk (gg g off cap : Nat) (l XL : List Int) (hl : l.length = 33) (hb : Bytes l) (hok : l.getD 0 0 - l.getD 0 0 % 2 = 2) (lXL : XL.length = 4) (w : World) (hg : Row w g off (l.map (Value.int .u8))) (hcap : 33 ≤ cap) (hcap2 : cap < 9223372036854775808)
    (hN : ∀ v W, Rd W 1 v 32 ((l.drop 1).map (Value.int .u8)) → Calls Try.prog 44 #[v] W fun e w' => e = .returned (.agg (XL.map (Value.int .u64)).toArray) ∧ Keeps W w')
    (hB : ∀ W, Keeps w W → Calls Try.prog 52 #[.pointer (some ⟨gg, 0, none⟩), .agg (XL.map (Value.int .u64)).toArray] W fun e w' => e = .returned (.bool true) ∧ Keeps W w') (LC : List Int) (d : Bool) (lLC : LC.length = 12)
    (hLf : ∀ b, b = l.getD 0 0 → ∀ W, Keeps w W → Calls Try.prog 64 #[.pointer (some ⟨gg, 0, none⟩), .agg (XL.map (Value.int .u64)).toArray, .int .u64 (b % 2)] W fun e w' => e = .returned (.tuple #[.agg (LC.map (Value.int .u64)).toArray, .bool d]) ∧ Keeps W w') :
    Calls Try.prog 37 #[.pointer (some ⟨gg, 0, none⟩), .slice (some ⟨g, off, none⟩) 33 cap] w fun e w' => e = .returned (.tuple #[.agg (LC.map (Value.int .u64)).toArray, .bool d]) ∧ Keeps w w' := by
  have HNM := Lib.hid hN; have HBL := Lib.hid hB; clear hN hB
  have HLF := Lib.hid hLf; clear hLf
  have hb0 := hb.getD 0
  have HG := Lib.hid hg
  have hl0 : 0 < l.length := by omega
  have hgl : g < w.heap.size := hg.lt (by intro e; have := congrArg List.length e; rw [List.length_map, hl] at this; cases this)
  have HL := Lib.hid hl
  clear hg hb hl
  go_enter Try.func37, Try.ntmps37
  go_upto_region 1 with (fail)
  refine cu_rows1 (fun W hk hra hs => ?_)
  obtain ⟨p, hp⟩ : ∃ p, p = w.heap.size := ⟨_, rfl⟩
  rw [← hp] at hra hs hgl ⊢
  have hkp : w.heap.size ≤ p := by omega
  obtain ⟨Zr, hZr, hrz⟩ : ∃ Zr : List Value, Zr.length = 12 ∧ Row W p 0 Zr := ⟨_, rfl, hra⟩
  have HKW := Lib.hid hk; have HRres := Lib.hid hrz
  have HC0 := Lib.hid (fun W' (hk' : Keeps w W') => (HG.out.keeps hk').int 0 hl0)
  have c0 := HC0.out W hk
  rw [Nat.add_zero] at c0
  have HR1 := Lib.hid (show Row W g (off + 1) ((l.drop 1).map (Value.int .u8)) by have := (HG.out.keeps hk).drop 1; rwa [← List.map_drop] at this)
  have HL1 := Lib.hid (show (l.drop 1).length = 32 by rw [List.length_drop, HL.out])
  have hgW : g < W.heap.size := by omega
  clear hp hra hrz hk hs hl0
  generalize hB0 : l.getD 0 0 = b0 at *
  have HB0 := Lib.hid hB0
  generalize l.drop 1 = LD at *
  have hand : bits .andNot .u8 b0 1 = b0 - b0 % 2 := andnot_one hb0.1 (by have := hb0.2; omega)
  have z1 : (b0 - b0 % 2 != 2) = false := by rw [bne_eq_false_iff_eq]; exact hok
  have HBR := Lib.hid hb0
  have hand2 : bits .and .u8 b0 1 = b0 % 2 := and_one8 hb0.1 (by have := hb0.2; omega)
  have HLF := Lib.hid (fun W' hk' => HLF.out b0 (by first | rfl | exact hB0.symm) W' hk')
  clear hok hb0 hB0
  go_upto_region 4 with (first | (go_at_call 44; refine (HNM.out _ _ (Rd.of_row HR1.out (by simp [HL1.out]) hgW (by omega) (by unfold maxLen; omega))).mono ?_; rintro e V1 ⟨rfl, hk1⟩; have HV1 := Lib.hid hk1; clear hk1) | (refine wpList_store_row rfl 69 (.tmp 6) (.tmp 20) rfl V1.heap.size 0 rfl zeros4 (XL.map (Value.int .u64)) rfl (Row.new _ _ _ rfl) (by rw [List.length_map, lXL]; rfl) (by rw [List.length_map, lXL]; exact sz_cnum) (int_oneCell _) ?_; intro W2 hr2 hc2; have HN := Lib.hid hr2; have HK2 := Lib.hid (nm_keeps_chg (nm_keeps_alloc HV1.out _) hc2 HV1.out.size); clear hr2 hc2))
  have hq : W.heap.size ≤ V1.heap.size := HV1.out.size
  have hpq : p < V1.heap.size := Nat.lt_of_lt_of_le (HRres.out.lt (by intro e; rw [e] at hZr; cases hZr)) hq
  generalize V1.heap.size = q at *
  have HRres := Lib.hid (HRres.out.keeps HK2.out)
  have HKW := Lib.hid (HKW.out.trans HK2.out)
  have HRX := HN
  refine wp_region_keep 5 [] [0, 1, 2, 3, 4] (fun _ => zeros4) (by kernel_rfl) (by kernel_rfl) (by intro i hi; cases hi) ?_
  refine keep_pure (o := ?_) (v := ?_) ?_ ?_ ?_ ?_
  rotate_left 2
  focus (simp only [kG]; exact rfl)
  focus rfl
  focus ((intro wS hS; go_simp) <;> with_reducible rfl)
  try simp only [kP]
  refine keep_pure (o := ?_) (v := ?_) ?_ ?_ ?_ ?_
  rotate_left 2
  focus (simp only [kG]; exact rfl)
  focus rfl
  focus ((intro wS hS; go_simp) <;> with_reducible rfl)
  try simp only [kP]
  refine keep_pure (o := ?_) (v := ?_) ?_ ?_ ?_ ?_
  rotate_left 2
  focus (simp only [kG]; exact rfl)
  focus rfl
  focus ((intro wS hS; go_simp) <;> with_reducible rfl)
  try simp only [kP]
  refine keep_pure (o := ?_) (v := ?_) ?_ ?_ ?_ ?_
  rotate_left 2
  focus (simp only [kG]; exact rfl)
  focus rfl
  focus (intro wS hS; (refine cu_run_load 69 (.tmp 6) ?_ q 0 ?_ (XL.map (Value.int .u64)) _ (HRX.out.keeps hS) Try.underlying69 rfl (by rw [List.length_map, lXL]; exact sz_cnum)) <;> rfl)
  try simp only [kP]
  refine keep_call (o := ?_) (f := ?_) (args := ?_) (v := ?_) ?_ ?_ ?_ ?_ ?_
  rotate_left 4
  focus (simp only [kG]; exact rfl)
  focus rfl
  focus (intro wS; go_simp; refine ⟨?_, ?_⟩ <;> with_reducible rfl)
  focus (intro wS hS; exact HBL.out wS (HKW.out.trans hS))
  try simp only [kP]
  refine keep_nil ?_
  intro GG V2 hk1 hG
  clear hG
  simp only [putsA, dstAt, Act.put, ptrV, List.drop_succ_cons, List.drop_zero, List.getElem?_toArray, List.getElem?_cons_succ, List.getElem?_cons_zero, Option.bind_some, List.setIfInBounds_toArray, List.set_cons_zero, List.set_cons_succ]
  have HRres := Lib.hid (HRres.out.keeps hk1)
  have HKW := Lib.hid (HKW.out.trans hk1)
  have HRX := Lib.hid (HRX.out.keeps hk1)
  clear hk1
  go_upto_region 6 with (fail)
  obtain ⟨hb0, hb1⟩ := HBR.out
  have hwr : IntKind.u64.wrap (b0 % 2) = b0 % 2 := by rw [IntKind.wrap_u64]; omega
  refine wp_region_keep 10 [] [0, 1, 2, 3, 4, 5, 6, 7, 8, 9] (fun _ => zeros4) (by kernel_rfl) (by kernel_rfl) (by intro i hi; cases hi) ?_
  refine keep_pure (o := ?_) (v := ?_) ?_ ?_ ?_ ?_
  rotate_left 2
  focus (simp only [kG]; exact rfl)
  focus rfl
  focus ((intro wS hS; go_simp) <;> with_reducible rfl)
  try simp only [kP]
  refine keep_pure (o := ?_) (v := ?_) ?_ ?_ ?_ ?_
  rotate_left 2
  focus (simp only [kG]; exact rfl)
  focus rfl
  focus (intro wS hS; (refine cu_run_load 69 (.tmp 6) ?_ q 0 ?_ (XL.map (Value.int .u64)) _ (HRX.out.keeps hS) Try.underlying69 rfl (by rw [List.length_map, lXL]; exact sz_cnum)) <;> rfl)
  try simp only [kP]
  refine keep_pure (o := ?_) (v := ?_) ?_ ?_ ?_ ?_
  rotate_left 2
  focus (simp only [kG]; exact rfl)
  focus rfl
  focus ((intro wS hS; go_simp) <;> with_reducible rfl)
  try simp only [kP]
  refine keep_pure (o := ?_) (v := ?_) ?_ ?_ ?_ ?_
  rotate_left 2
  focus (simp only [kG]; exact rfl)
  focus rfl
  focus ((intro wS hS; go_simp) <;> with_reducible rfl)
  try simp only [kP]
  refine keep_pure (o := ?_) (v := ?_) ?_ ?_ ?_ ?_
  rotate_left 2
  focus (simp only [kG]; exact rfl)
  focus rfl
  focus ((intro wS hS; have c9 := HC0.out wS (HKW.out.trans hS); rw [Nat.add_zero] at c9; go_simp) <;> with_reducible rfl)
  try simp only [kP]
  refine keep_pure (o := ?_) (v := ?_) ?_ ?_ ?_ ?_
  rotate_left 2
  focus (simp only [kG]; exact rfl)
  focus rfl
  focus ((intro wS hS; go_simp) <;> with_reducible rfl)
  try simp only [kP]
  refine keep_pure (o := ?_) (v := ?_) ?_ ?_ ?_ ?_
  rotate_left 2
  focus (simp only [kG]; exact rfl)
  focus rfl
  focus ((intro wS hS; go_simp) <;> with_reducible rfl)
  try simp only [kP]
  refine keep_call (o := ?_) (f := ?_) (args := ?_) (v := ?_) ?_ ?_ ?_ ?_ ?_
  rotate_left 4
  focus (simp only [kG]; exact rfl)
  focus rfl
  focus (intro wS; go_simp; refine ⟨?_, ?_⟩ <;> with_reducible rfl)
  focus (intro wS hS; exact HLF.out wS (HKW.out.trans hS))
  try simp only [kP]
  refine keep_pure (o := ?_) (v := ?_) ?_ ?_ ?_ ?_
  rotate_left 2
  focus (simp only [kG]; exact rfl)
  focus rfl
  focus ((intro wS hS; go_simp) <;> with_reducible rfl)
  try simp only [kP]
  refine keep_pure (o := ?_) (v := ?_) ?_ ?_ ?_ ?_
  rotate_left 2
  focus (simp only [kG]; exact rfl)
  focus rfl
  focus ((intro wS hS; go_simp) <;> with_reducible rfl)
  try simp only [kP]
  refine keep_nil ?_
  intro GG V3 hk1 hG
  clear hG
  simp only [putsA, dstAt, Act.put, ptrV, List.drop_succ_cons, List.drop_zero, List.getElem?_toArray, List.getElem?_cons_succ, List.getElem?_cons_zero, Option.bind_some, List.setIfInBounds_toArray, List.set_cons_zero, List.set_cons_succ]
  have HRres := Lib.hid (HRres.out.keeps hk1)
  have HKW := Lib.hid (HKW.out.trans hk1)
  clear hk1
  go_wp2_with (refine wpList_store_row rfl 74 (.tmp 4) (.tmp 36) rfl _ 0 rfl Zr (LC.map (Value.int .u64)) rfl HRres.out (by rw [List.length_map, lLC, hZr]) (by rw [List.length_map, lLC]; exact sz_cpt) (int_oneCell _) ?_; intro W2 hr2 hc2; have HN := Lib.hid hr2; have HC := Lib.hid hc2; clear hr2 hc2)
  exact bodyPost_ret (results_cell_tmpB (p := 4) (t := 5) (ty := 74) rfl _ _ p 0 _ _ _ rfl rfl HN.out Try.underlying74 rfl (by rw [List.length_map, lLC]; exact sz_cpt)) rfl ⟨rfl, nm_keeps_chg HKW.out HC.out (by omega)⟩
/-- 33 bytes as a point: its x and whether y is odd, where there is one -/
def unpN (l : List Int) : Option J := if l.length = 33 ∧ l.getD 0 0 - l.getD 0 0 % 2 = 2 ∧ be (l.drop 1) < PV then (liftN (be (l.drop 1)).toNat (l.getD 0 0 % 2).toNat).map (fun y => ⟨(be (l.drop 1)).toNat, y, 1⟩) else none
def unpC (l : List Int) : List Int := match unpN l with
  | some a => ptW a
  | none => zero12
theorem unpC_len (l : List Int) : (unpC l).length = 12 := by unfold unpC; split <;> rfl
theorem unpN_ok {l : List Int} {a : J} (hb : Bytes l) (h : unpN l = some a) : a.ok ∧ a.z = 1 ∧ On (fp a.x) (fp a.y) := by
  unfold unpN at h
  split at h
  · rename_i hc
    cases hl : liftN (be (l.drop 1)).toNat (l.getD 0 0 % 2).toNat with
    | none => rw [hl] at h; cases h
    | some y =>
      rw [hl] at h
      cases h
      have ho := liftN_on hl
      have hx := be_range (l := l.drop 1) (fun x h => hb x (List.mem_of_mem_drop h))
      have h3 := hc.2.2
      rw [pv_eq] at h3
      exact ⟨⟨by dsimp only; omega, ho.2, (by decide : 1 < PVn)⟩, rfl, ho.1⟩
  · cases h
theorem unpack_any (g : Nat) (v : Value) (l : List Int) (hb : Bytes l) (w : World) (hr : Row w g 0 gCells) (hv : Rd w 1 v l.length (l.map (Value.int .u8))) :
    Calls Try.prog 37 #[.pointer (some ⟨g, 0, none⟩), v] w fun e w' => e = .returned (.tuple #[.agg ((unpC l).map (Value.int .u64)).toArray, .bool (unpN l).isSome]) ∧ Keeps w w' := by
  obtain ⟨_, sa, cap, rfl, h2, h3, h4, h5⟩ := hv
  have hsz : cap < 9223372036854775808 := by unfold maxLen at h3; omega
  by_cases hl : l.length = 33
  · cases sa with
    | none => have := (h4 rfl).1; omega
    | some ad =>
      obtain ⟨g2, off, rfl, hg2, hrow⟩ := h5 ad rfl (by omega)
      rw [hl] at h2 ⊢
      have hx := be_range (l := l.drop 1) (fun x h => hb x (List.mem_of_mem_drop h))
      have hx2 := be_u256 (l := l.drop 1) (fun x h => hb x (List.mem_of_mem_drop h)) (by rw [List.length_drop, hl])
      have hb0 := hb.getD 0
      by_cases hok : l.getD 0 0 - l.getD 0 0 % 2 = 2
      · have hN := fun v W hr => cnumber_any v (l.drop 1) W hr (fun x h => hb x (List.mem_of_mem_drop h)) (by rw [List.length_drop, hl])
        have hB := fun W (hk : Keeps w W) => below_any g 0 PV (be (l.drop 1)) PV_u256 hx2 W (gCells_p (hr.keeps hk))
        by_cases hp : be (l.drop 1) < PV
        · rw [decide_eq_true hp] at hB
          have he : unpN l = (liftN (be (l.drop 1)).toNat (l.getD 0 0 % 2).toNat).map (fun y => ⟨(be (l.drop 1)).toNat, y, 1⟩) := by unfold unpN; rw [if_pos ⟨hl, hok, hp⟩]
          have hc : unpC l = liftC (be (l.drop 1)).toNat (l.getD 0 0 % 2).toNat := by
            unfold unpC liftC
            rw [he]
            cases liftN (be (l.drop 1)).toNat (l.getD 0 0 % 2).toNat <;> rfl
          have hd : (unpN l).isSome = (liftN (be (l.drop 1)).toNat (l.getD 0 0 % 2).toNat).isSome := by rw [he]; simp
          rw [hc, hd]
          have hxn : words (be (l.drop 1)) = nw (be (l.drop 1)).toNat := by unfold nw; rw [Int.toNat_of_nonneg hx.1]
          rw [hxn] at hN hB
          exact unpok_walk g g2 off cap l (nw (be (l.drop 1)).toNat) hl hb hok rfl w hrow h2 hsz hN hB _ _ (liftC_len _ _) (fun b hb' W hk => by
            have := lift_any g (be (l.drop 1)).toNat (l.getD 0 0 % 2).toNat (by rw [pv_eq] at hp; omega) W (hr.keeps hk)
            rw [hb']
            rwa [Int.toNat_of_nonneg (by omega)] at this)
        · rw [decide_eq_false hp] at hB
          have he : unpN l = none := by unfold unpN; rw [if_neg (fun h => hp h.2.2)]
          have hc : unpC l = zero12 := by unfold unpC; rw [he]
          rw [hc, he]
          exact unpx_walk g g2 off cap l _ hl hb hok (words_length _) w hrow h2 hsz hN hB
      · have he : unpN l = none := by unfold unpN; rw [if_neg (fun h => hok h.2.1)]
        have hc : unpC l = zero12 := by unfold unpC; rw [he]
        rw [hc, he]
        exact unpb0_walk _ g2 off cap l hl hb hok w hrow
  · have he : unpN l = none := by unfold unpN; rw [if_neg (fun h => hl h.1)]
    have hc : unpC l = zero12 := by unfold unpC; rw [he]
    rw [hc, he]
    exact unplen_walk _ sa l.length cap hl (by omega) w
end Go.Proofs.Ytajipagpdphejaa
