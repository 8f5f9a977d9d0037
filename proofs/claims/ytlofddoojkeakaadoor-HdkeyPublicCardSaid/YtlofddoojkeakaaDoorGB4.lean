/- The reference's P, Mod, Add, Sub, Mul, bit. No condition. | curve's field: field.mul as far as its call of fold. No condition. | curve's field: field.fold, eight words brought below the modulus. No condition. -/
import Derived.Test.YtlofddoojkeakaaDoorGB2
import Derived.Test.YtlofddoojkeakaaDoorGB3
import Derived.Deep.LoopGhost
namespace Go.Proofs.YtlofddoojkeakaaDoor
set_option linter.unusedVariables false
set_option linter.unusedSimpArgs false
open Go Go.RowKit

theorem sz_t8 : (Tryd.prog.info? 94).map (·.size) = some 8 := by kernel_rfl
set_option maxRecDepth 100000 in
set_option maxHeartbeats 8000000 in
theorem mulw_any (fv : Value) (x y : Int) (RES : List Int) (hrl : RES.length = 4) (hx : U256 x) (hy : U256 y) (w : World)
    (hF : ∀ (L : List Int) W, L.length = 8 → Digs 18446744073709551616 L → val 18446744073709551616 L = x * y → Keeps w W → Calls Tryd.prog 89 #[fv, .agg (L.map (Value.int .u64)).toArray] W fun e w' => e = .returned (.agg (RES.map (Value.int .u64)).toArray) ∧ Keeps W w') :
    Calls Tryd.prog 67 #[fv, .agg ((words x).map (Value.int .u64)).toArray, .agg ((words y).map (Value.int .u64)).toArray] w fun e w' => e = .returned (.agg (RES.map (Value.int .u64)).toArray) ∧ Keeps w w' := by
  have HF := Lib.hid hF
  have hxl := words_length x
  have hyl := words_length y
  have hxr := words_range x
  have hyr := words_range y
  have HST := Lib.hid (fun i k L c (h : MulIn x y i k L c) => @MulIn.step x y i k L c)
  have HSTEP := Lib.hid (fun i k L c c' t' => @MulIn.step x y i k L c c' t')
  generalize words x = X at *
  generalize words y = Y at *
  have HXL := Lib.hid hxl; have HYL := Lib.hid hyl; have HXR := Lib.hid hxr; have HYR := Lib.hid hyr; have HX := Lib.hid hx; have HY := Lib.hid hy
  clear hF hxl hyl hxr hyr HST hx hy
  go_enter Tryd.func67, Tryd.ntmps67
  go_upto_region 2 with (fail)
  refine wp_rows4 (fun W hk hra hrb hr2 hr3 hs => ?_)
  obtain ⟨p, hp⟩ : ∃ p, p = w.heap.size := ⟨_, rfl⟩
  rw [← hp] at hra hrb hr2 hr3 hs ⊢
  have hkp : w.heap.size ≤ p := by omega
  obtain ⟨Z, hZ, hrz⟩ : ∃ Z : List Value, Z.length = 4 ∧ Row W (p + 1 + 1) 0 Z := ⟨_, rfl, hr2⟩
  have HRA := Lib.hid (show Row W p 0 (X.map (Value.int .u64)) from hra)
  have HM := Lib.hid (show MulMem w W p X Y (List.replicate 8 0) Z from ⟨hk, hra, hrb, hrz, hr3⟩)
  clear hp hra hrb hr2 hr3 hrz hk hs
  go_wp2_with (refine wpList_load_at rfl 70 (.tmp 4) rfl _ 0 rfl (X.map (Value.int .u64)) _ HRA.out Tryd.underlying70 rfl (by rw [List.length_map, HXL.out]; exact sz_cnum) ?_)
  go_loopw [8, 9, 10, 11, 12, 13, 14, 15, 17, 21, 22] (fun _ _ _ _ _ _ _ _ c _ _ wr => ∃ (i : Nat) (L : List Int), i ≤ 4 ∧ c = .int .i64 i ∧ Hid (MulSt x y i L) ∧ Hid (MulMem w wr p X Y L Z)) (fun _ _ _ _ _ _ _ _ c _ _ _ => (4 - intOf c).toNat)
  case atStart => exact ⟨0, _, by omega, rfl, Lib.hid (MulSt.zero x y), HM⟩
  case round =>
    obtain ⟨i, L, hi, rfl, HS, HMM⟩ := hrel
    by_cases hlt : i < 4
    · have hix : ∀ W : World, (Instr.index 70 (.agg (X.map (Value.int .u64)).toArray) (.int .i64 (i : Int))).run Tryd.prog W = .ok (.int .u64 (X.getD i 0)) W := fun W => run_index_ints W _ _ 4 _ X i Tryd.underlying70 Tryd.underlying54 (by kernel_rfl) HXL.out hlt
      have hxr := HXR.out i hlt
      have HSTEPi := Lib.hid (HSTEP.out i)
      generalize X.getD i 0 = a at *
      go_wp2_with (refine wpList_load_at rfl 70 (.tmp 5) rfl _ 0 rfl (Y.map (Value.int .u64)) _ HMM.out.2.2.1 Tryd.underlying70 rfl (by rw [List.length_map, HYL.out]; exact sz_cnum) ?_)
      go_loopw [10, 11, 12, 13, 14, 15, 22] (fun cc _ _ _ _ _ c wr => ∃ (k : Nat) (L : List Int) (cv : Int), k ≤ 4 ∧ c = .int .i64 k ∧ cc = .int .u64 cv ∧ Hid (MulIn x y i k L cv) ∧ Hid (MulMem w wr p X Y L Z)) (fun _ _ _ _ _ _ c _ => (4 - intOf c).toNat)
      case atStart => exact ⟨0, _, 0, by omega, rfl, rfl, Lib.hid HS.out.inn, HMM⟩
      case round =>
        obtain ⟨k, L2, cv, hk4, rfl, rfl, HI, HM2⟩ := hrel
        by_cases hltk : k < 4
        · have hiy : ∀ W : World, (Instr.index 70 (.agg (Y.map (Value.int .u64)).toArray) (.int .i64 (k : Int))).run Tryd.prog W = .ok (.int .u64 (Y.getD k 0)) W := fun W => run_index_ints W _ _ 4 _ Y k Tryd.underlying70 Tryd.underlying54 (by kernel_rfl) HYL.out hltk
          have hyr := HYR.out k hltk
          have hL2 := HI.out.len
          have hc := HM2.out.2.2.2.2.int0 (i + k) (by omega)
          have hf := HM2.out.2.2.2.2.free0 (i + k) (by rw [List.length_map]; omega)
          have ht := HI.out.dg.getD (i := i + k) (by omega)
          have HSTEPk := Lib.hid (HSTEPi.out k L2 cv)
          have c0 := HI.out.c0; have c1 := HI.out.c1
          generalize Y.getD k 0 = b at *
          have htd : L2.getD (i + k) 0 = L2.getD (i + k) 0 := rfl
          generalize ht9 : L2.getD (i + k) 0 = t at hc hf ht HSTEPk htd
          clear ht9 htd
          obtain ⟨hi9, lo, lo1, c1', t1, c2, e1, e2, e3, e4, e5, e6, q1, q2, q3, q4, q5, q6, q7, q8, q9, q10, q11, q12, q13, q14⟩ := mul_digit (a := a) (b := b) (c := cv) (t := t) hxr hyr ⟨c0, c1⟩ ht
          have hadd1 := fun W => add64_run lo cv 0 q3 c0 (by omega) (by omega) W
          have hadd2 := fun W => add64_run t lo1 0 ht.1 q5 (by omega) (by omega) W
          have HMUL := Lib.hid (mul64_any a b hxr hyr)
          rw [e1, e2] at HMUL
          rw [e3, e4] at hadd1
          rw [e5, e6] at hadd2
          have hset := HM2.out.2.2.2.2.setInt0 (i + k) (by omega) t1
          have HSET := Lib.hid hset
          have HNEW := Lib.hid (fun h => HSTEPk.out (hi9 + c1' + c2) t1 HI.out hlt hltk q11 q12 (by omega) q13 h)
          have HE := Lib.hid q14
          clear hset e1 e2 e3 e4 e5 e6 q14
          go_wp2_with (go_at_call 88; refine (HMUL.out _).mono ?_; rintro e W1 ⟨rfl, rfl⟩)
          obtain ⟨hk9, hra9, hrb9, hrz9, hrl9⟩ := HM2.out
          have H1 := Lib.hid hk9; have H2 := Lib.hid hra9; have H3 := Lib.hid hrb9; have H4 := Lib.hid hrz9
          clear hk9 hra9 hrb9 hrz9 hrl9 HM2
          go_roundw
          case rel => exact ⟨k + 1, _, hi9 + c1' + c2, by omega, by go_num, by first | rfl | go_num, Lib.hid (HNEW.out HE.out), Lib.hid ⟨keeps_set H1.out (by omega) _, H2.out.other (show p ≠ p + 1 + 1 + 1 by omega) _, H3.out.other (show p + 1 ≠ p + 1 + 1 + 1 by omega) _, H4.out.other (show p + 1 + 1 ≠ p + 1 + 1 + 1 by omega) _, HSET.out⟩⟩
          case measure => simp [intOf]; omega
        · obtain rfl : k = 4 := by omega
          obtain ⟨hk9, hra9, hrb9, hrz9, hrl9⟩ := HM2.out
          have hL2 := HI.out.len
          have hc := hrl9.int0 (i + 4) (by omega)
          have hf := hrl9.free0 (i + 4) (by rw [List.length_map]; omega)
          have hset := hrl9.setInt0 (i + 4) (by omega) cv
          have HSET := Lib.hid hset
          have H1 := Lib.hid hk9; have H2 := Lib.hid hra9; have H3 := Lib.hid hrb9; have H4 := Lib.hid hrz9
          have HNEW := Lib.hid (HI.out.out hlt HY.out)
          clear hk9 hra9 hrb9 hrz9 hrl9 HM2 hset
          generalize L2.getD (i + 4) 0 = t at *
          go_wp2
          go_roundw
          case rel => exact ⟨i + 1, _, by omega, by go_num, HNEW, Lib.hid ⟨keeps_set H1.out (by omega) _, H2.out.other (show p ≠ p + 1 + 1 + 1 by omega) _, H3.out.other (show p + 1 ≠ p + 1 + 1 + 1 by omega) _, H4.out.other (show p + 1 + 1 ≠ p + 1 + 1 + 1 by omega) _, HSET.out⟩⟩
          case measure => simp [intOf]; omega
    · obtain rfl : i = 4 := by omega
      obtain ⟨hk9, hra9, hrb9, hrz9, hrl9⟩ := HMM.out
      have hL := HS.out.len
      have HFW := Lib.hid (HF.out L wr hL HS.out.dg (HS.out.done HX.out) hk9)
      have H1 := Lib.hid hk9; have H4 := Lib.hid hrz9; have H5 := Lib.hid hrl9
      clear hk9 hra9 hrb9 hrz9 hrl9 HMM
      go_wp2_with (first | (refine wpList_load_at rfl 94 (.tmp 7) rfl _ 0 rfl (L.map (Value.int .u64)) _ H5.out Tryd.underlying94 rfl (by rw [List.length_map, hL]; exact sz_t8) ?_) | (go_at_call 89; refine HFW.out.mono ?_; rintro e W2 ⟨rfl, hk2⟩; have HK2 := Lib.hid hk2; clear hk2) | (refine wpList_store_row rfl 70 (.tmp 6) (.tmp 66) rfl (p + 1 + 1) 0 rfl Z (RES.map (Value.int .u64)) rfl (H4.out.keeps HK2.out) (by rw [List.length_map, hrl, hZ]) (by rw [List.length_map, hrl]; exact sz_cnum) (int_oneCell _) ?_; intro w9 hr9 hc9; have H9 := Lib.hid hr9; have HC9 := Lib.hid hc9; clear hr9 hc9))
      exact bodyPost_ret (v := .agg (RES.map (Value.int .u64)).toArray) (results_cell_at (p := 6) (ty := 70) rfl _ _ (p + 1 + 1) 0 _ _ rfl H9.out Tryd.underlying70 rfl (by rw [List.length_map, hrl]; exact sz_cnum)) rfl ⟨rfl, nm_keeps_chg (H1.out.trans HK2.out) HC9.out (by omega)⟩
theorem sz_t3 : (Tryd.prog.info? 83).map (·.size) = some 3 := by kernel_rfl
theorem val4_words {a b c d : Int} (h : Digs 18446744073709551616 [a, b, c, d]) : [a, b, c, d] = words (val 18446744073709551616 [a, b, c, d]) := words_val h rfl
theorem digs_lo {a b c d e f g i : Int} (h : Digs 18446744073709551616 [a, b, c, d, e, f, g, i]) : Digs 18446744073709551616 [a, b, c, d] := h.take 4
theorem digs_hi {a b c d e f g i : Int} (h : Digs 18446744073709551616 [a, b, c, d, e, f, g, i]) : Digs 18446744073709551616 [e, f, g, i] := h.drop 4
theorem or_four {e f g i : Int} (h : Digs 18446744073709551616 [e, f, g, i]) : (bits .or .u64 (bits .or .u64 (bits .or .u64 e f) g) i = 0 ∧ e = 0 ∧ f = 0 ∧ g = 0 ∧ i = 0) ∨ (¬ bits .or .u64 (bits .or .u64 (bits .or .u64 e f) g) i = 0 ∧ 0 < val 18446744073709551616 [e, f, g, i]) := by
  have h1 := h e (by simp); have h2 := h f (by simp); have h3 := h g (by simp); have h4 := h i (by simp)
  have r1 := bits_or_range e f
  have r2 := bits_or_range (bits .or .u64 e f) g
  by_cases hz : bits .or .u64 (bits .or .u64 (bits .or .u64 e f) g) i = 0
  · have hz' := hz
    rw [bits_or_zero r2.1 r2.2 h4.1 h4.2, bits_or_zero r1.1 r1.2 h3.1 h3.2, bits_or_zero h1.1 h1.2 h2.1 h2.2] at hz'
    exact .inl ⟨hz, hz'.1.1.1, hz'.1.1.2, hz'.1.2, hz'.2⟩
  · refine .inr ⟨hz, ?_⟩
    have := (val_range (by decide) h).1
    refine Classical.byContradiction fun e0 => hz ?_
    simp only [val] at e0 this
    rw [bits_or_zero r2.1 r2.2 h4.1 h4.2, bits_or_zero r1.1 r1.2 h3.1 h3.2, bits_or_zero h1.1 h1.2 h2.1 h2.2]
    omega
set_option maxRecDepth 100000 in
set_option maxHeartbeats 8000000 in
theorem fold_any (g off : Nat) (m : Int) (F : List Int) (hF : Fld m F) (L : List Int) (hl : L.length = 8) (hd : Digs 18446744073709551616 L) (w : World) (hr : Row w g off (F.map (Value.int .u64))) :
    Calls Tryd.prog 89 #[.pointer (some ⟨g, off, none⟩), .agg (L.map (Value.int .u64)).toArray] w fun e w' => e = .returned (.agg ((words (val 18446744073709551616 L % m)).map (Value.int .u64)).toArray) ∧ Keeps w w' := by
  obtain ⟨V, hV⟩ : ∃ V, V = val 18446744073709551616 L := ⟨_, rfl⟩
  rw [← hV]
  have HFL := Lib.hid hF
  have HROW := Lib.hid hr
  have HROWD := Lib.hid (show Row w g (off + 4) ((F.drop 4).map (Value.int .u64)) by rw [List.map_drop]; exact hr.drop 4)
  have HROWM := Lib.hid (show Row w g off ((words m).map (Value.int .u64)) by rw [← hF.m4, List.map_take]; exact hr.take 4)
  have HST0 := Lib.hid (show FoldSt m V L from ⟨hl, hd, by rw [hV]⟩)
  have hdl : (F.drop 4).length = 3 := by rw [List.length_drop, hF.len]
  have HDG := Lib.hid hF.dg
  have HDV := Lib.hid hF.dv
  generalize F.drop 4 = D at *
  have HDL := Lib.hid hdl
  have hrl := words_length (V % m)
  generalize hRES : words (V % m) = RES at *
  have HRES := Lib.hid hRES
  clear hRES
  have HIN := Lib.hid (fun lo (h0 : U256 lo) W hW => in_any g off m lo hF.mU h0 W hW)
  clear hr hV hd hdl hF
  go_enter Tryd.func89, Tryd.ntmps89
  go_upto_region 1 with (fail)
  refine cu_rows2 (fun W hk hra hrb hs => ?_)
  obtain ⟨p, hp⟩ : ∃ p, p = w.heap.size := ⟨_, rfl⟩
  rw [← hp] at hra hrb hs ⊢
  have hkp : w.heap.size ≤ p := by omega
  obtain ⟨Z, hZ, hrz⟩ : ∃ Z : List Value, Z.length = 4 ∧ Row W (p + 1) 0 Z := ⟨_, rfl, hrb⟩
  have HM := Lib.hid (show FoldMem w W p L Z from ⟨hk, hra, hrz⟩)
  clear hp hra hrb hrz hk hs
  go_wp2
  go_loopg [5, 6, 7, 8, 9, 10, 11, 12, 13, 14, 40, 41, 48, 49] (val 18446744073709551616 L).toNat (fun gk _ _ _ _ _ _ _ _ _ _ _ _ _ _ wr => ∃ (L : List Int), gk = (val 18446744073709551616 L).toNat ∧ Hid (FoldSt m V L) ∧ Hid (FoldMem w wr p L Z))
  case atStart => exact ⟨L, rfl, HST0, HM⟩
  case round =>
    obtain ⟨L1, hgk, HS, HMM⟩ := hrel
    obtain ⟨l0, l1, l2, l3, l4, l5, l6, l7, rfl⟩ := list8 HS.out.len
    have hdg := HS.out.dg
    obtain ⟨hk9, hra9, hrz9⟩ := HMM.out
    have c0 := hra9.int0 0 (by simp); have c1 := hra9.int0 1 (by simp); have c2 := hra9.int0 2 (by simp); have c3 := hra9.int0 3 (by simp)
    have c4 := hra9.int0 4 (by simp); have c5 := hra9.int0 5 (by simp); have c6 := hra9.int0 6 (by simp); have c7 := hra9.int0 7 (by simp)
    simp only [List.getD_cons_zero, List.getD_cons_succ] at c0 c1 c2 c3 c4 c5 c6 c7
    rcases or_four (digs_hi hdg) with ⟨hq, rfl, rfl, rfl, rfl⟩ | ⟨hq, hpos⟩
    · have H2 := Lib.hid hrz9; have HK2 := Lib.hid hk9
      have hlo := val_range (B := 18446744073709551616) (by decide) (digs_lo hdg)
      have hv := HS.out.val
      have hw4 := val4_words (digs_lo hdg)
      have HINw := Lib.hid (HIN.out (val 18446744073709551616 [l0, l1, l2, l3]) ⟨hlo.1, by rw [← B64_four]; exact hlo.2⟩)
      have e8 := val8 l0 l1 l2 l3 0 0 0 0
      have hz : val 18446744073709551616 [0, 0, 0, 0] = 0 := by decide
      rw [hz, Int.mul_zero, Int.add_zero] at e8
      rw [e8] at hv
      rw [in_mod hlo.1 (by rw [← B64_four]; exact hlo.2) HFL.out.two, hv, HRES.out, ← hw4] at HINw
      clear hv hw4 e8 hz hlo hdg HS HMM hra9 hrz9 hk9 hgk
      go_wp2_with (first | (go_at_call 66; refine (HINw.out _ (HROWM.out.keeps HK2.out)).mono ?_; rintro e W2 ⟨rfl, hk2⟩; have HK3 := Lib.hid hk2; clear hk2) | (refine wpList_store_row rfl 70 (.tmp 4) (.tmp 113) rfl (p + 1) 0 rfl Z (RES.map (Value.int .u64)) rfl (H2.out.keeps HK3.out) (by rw [List.length_map, hrl, hZ]) (by rw [List.length_map, hrl]; exact sz_cnum) (int_oneCell _) ?_; intro w9 hr9 hc9; have H9 := Lib.hid hr9; have HC9 := Lib.hid hc9; clear hr9 hc9))
      exact bodyPost_ret (v := .agg (RES.map (Value.int .u64)).toArray) (results_cell_at (p := 4) (ty := 70) rfl _ _ (p + 1) 0 _ _ rfl H9.out Tryd.underlying70 rfl (by rw [List.length_map, hrl]; exact sz_cnum)) rfl ⟨rfl, nm_keeps_chg (HK2.out.trans HK3.out) HC9.out (by omega)⟩
    · have hlo := val_range (B := 18446744073709551616) (by decide) (digs_lo hdg)
      have hhi := val_range (B := 18446744073709551616) (by decide) (digs_hi hdg)
      have hd0 := val_range (B := 18446744073709551616) (by decide) HDG.out
      rw [HDL.out] at hd0
      have e8 := val8 l0 l1 l2 l3 l4 l5 l6 l7
      have hnx := fold_next (d := val 18446744073709551616 D) (V := V) (m := m) HDV.out (by have := HFL.out.two; omega) (by rw [← e8]; exact HS.out.val) hpos
      rw [← e8] at hnx
      have HNX := Lib.hid hnx
      have HGK := Lib.hid hgk
      have HLO := Lib.hid hlo; have HHI := Lib.hid hhi; have HD0 := Lib.hid hd0
      have HI0 := Lib.hid (foldI_start l0 l1 l2 l3 l4 l5 l6 l7 (val 18446744073709551616 D) hdg)
      have HDGH := Lib.hid (digs_hi hdg)
      generalize val 18446744073709551616 [l0, l1, l2, l3] = lo at *
      generalize hHn : val 18446744073709551616 [l4, l5, l6, l7] = Hn at *
      have HHn := Lib.hid hHn
      generalize hdd : val 18446744073709551616 D = d at *
      have HDd := Lib.hid hdd
      have z1 : (bits .or .u64 (bits .or .u64 (bits .or .u64 l4 l5) l6) l7 != 0) = true := by rw [bne_iff_ne]; exact hq
      have hlt1 := hra9.lt (by simp)
      have hlt2 := hrz9.lt (by intro e; rw [e] at hZ; cases hZ)
      have HRA9 := Lib.hid hra9
      have H1 := Lib.hid hk9; have H2 := Lib.hid hrz9
      clear hlo hhi hd0 e8 hnx hgk hdg HS HMM hra9 hrz9 hk9 hHn hdd hq hpos
      go_upto_region 3 with (fail)
      refine cu_rows1 (fun W1 hk1 hr1 hs1 => ?_)
      generalize wr.heap.size = gh at *
      have hra9 := HRA9.out.keeps hk1
      have hrz9 := H2.out.keeps hk1
      have c4 := hra9.int0 4 (by simp); have c5 := hra9.int0 5 (by simp); have c6 := hra9.int0 6 (by simp); have c7 := hra9.int0 7 (by simp)
      simp only [List.getD_cons_zero, List.getD_cons_succ] at c4 c5 c6 c7
      have f4 := hra9.free0 4 (by simp); have f5 := hra9.free0 5 (by simp); have f6 := hra9.free0 6 (by simp); have f7 := hra9.free0 7 (by simp)
      have HG7 := Lib.hid ((((hra9.setInt0 4 (by simp) 0).setInt0 5 (by simp) 0).setInt0 6 (by simp) 0).setInt0 7 (by simp) 0)
      have HRZ9 := Lib.hid hrz9
      have HR1 := Lib.hid (show Row W1 gh 0 ([l4, l5, l6, l7].map (Value.int .u64)) from hr1)
      have HK1 := Lib.hid (H1.out.trans hk1)
      clear hra9 hrz9 hr1 hk1
      go_upto_region 4 with (fail)
      refine wp_gen (fun W => FoldMem w W p [l0, l1, l2, l3, 0, 0, 0, 0] Z ∧ Row W gh 0 ([l4, l5, l6, l7].map (Value.int .u64))) ⟨⟨?_, HG7.out, ?_⟩, ?_⟩ ?_
      · exact keeps_set (keeps_set (keeps_set (keeps_set HK1.out (by omega) _) (by omega) _) (by omega) _) (by omega) _
      · exact (((HRZ9.out.other (show p + 1 ≠ p by omega) _).other (show p + 1 ≠ p by omega) _).other (show p + 1 ≠ p by omega) _).other (show p + 1 ≠ p by omega) _
      · exact (((HR1.out.other (show gh ≠ p by omega) _).other (show gh ≠ p by omega) _).other (show gh ≠ p by omega) _).other (show gh ≠ p by omega) _
      rintro W2 ⟨hm2, hr2⟩
      have HR2 := Lib.hid hr2
      have HM2 := Lib.hid hm2
      clear hr2 hm2 HG7 HRZ9 HR1 HK1 HRA9 H1 H2 c4 c5 c6 c7 f4 f5 f6 f7 hs1 c0 c1 c2 c3
      generalize hHH : [l4, l5, l6, l7] = HH at *
      have hhl : HH.length = 4 := by rw [← hHH]; rfl
      have HHL := Lib.hid hhl
      clear hhl hHH
      go_wp2_with (refine wpList_load_at rfl 70 (.tmp 5) rfl gh 0 rfl (HH.map (Value.int .u64)) _ HR2.out Tryd.underlying70 rfl (by rw [List.length_map, HHL.out]; exact sz_cnum) ?_)
      go_loopw [6, 7, 8, 9, 10, 11, 12, 13, 14, 41, 48, 49] (fun _ _ _ _ _ _ _ _ _ c _ _ wr => ∃ (i : Nat) (L : List Int), i ≤ 4 ∧ c = .int .i64 i ∧ Hid (FoldI lo Hn d i L) ∧ Hid (FoldMem w wr p L Z)) (fun _ _ _ _ _ _ _ _ _ c _ _ _ => (4 - intOf c).toNat)
      case atStart => exact ⟨0, _, by omega, rfl, HI0, HM2⟩
      case round =>
        obtain ⟨i, L1, hi, rfl, HS, HMM⟩ := hrel
        by_cases hlt : i < 4
        · have hix : ∀ W : World, (Instr.index 70 (.agg (HH.map (Value.int .u64)).toArray) (.int .i64 (i : Int))).run Tryd.prog W = .ok (.int .u64 (HH.getD i 0)) W := fun W => run_index_ints W _ _ 4 _ HH i Tryd.underlying70 Tryd.underlying54 (by kernel_rfl) HHL.out hlt
          have ha := HDGH.out.getD (i := i) (by rw [HHL.out]; exact hlt)
          have HAV := Lib.hid (val_getD (by decide) HDGH.out (j := i) (by rw [HHL.out]; exact hlt))
          rw [HHn.out] at HAV
          generalize HH.getD i 0 = a at *
          go_wp2_with (refine wpList_load_at rfl 83 (.tmp 47) rfl g (off + 4) (by rfl) (D.map (Value.int .u64)) _ (HROWD.out.keeps HMM.out.1) Tryd.underlying83 rfl (by rw [List.length_map, HDL.out]; exact sz_t3) ?_)
          go_loopw [8, 9, 10, 11, 12, 13, 49] (fun cc _ _ _ _ _ c wr => ∃ (k : Nat) (L : List Int) (cv : Int), k ≤ 3 ∧ c = .int .i64 k ∧ cc = .int .u64 cv ∧ Hid (FoldIn lo Hn d i k L cv) ∧ Hid (FoldMem w wr p L Z)) (fun _ _ _ _ _ _ c _ => (3 - intOf c).toNat)
          case atStart => exact ⟨0, _, 0, by omega, rfl, rfl, Lib.hid HS.out.inn, HMM⟩
          case round =>
            obtain ⟨k, L2, cv, hk4, rfl, rfl, HI, HM2⟩ := hrel
            by_cases hltk : k < 3
            · have hiy : ∀ W : World, (Instr.index 83 (.agg (D.map (Value.int .u64)).toArray) (.int .i64 (k : Int))).run Tryd.prog W = .ok (.int .u64 (D.getD k 0)) W := fun W => run_index_ints W _ _ 3 _ D k Tryd.underlying83 Tryd.underlying54 (by kernel_rfl) HDL.out hltk
              have hb := HDG.out.getD (i := k) (by rw [HDL.out]; exact hltk)
              have HBV := Lib.hid (val_getD (by decide) HDG.out (j := k) (by rw [HDL.out]; exact hltk))
              rw [HDd.out] at HBV
              have hL2 := HI.out.len
              have hc := HM2.out.2.1.int0 (i + k) (by omega)
              have hf := HM2.out.2.1.free0 (i + k) (by rw [List.length_map]; omega)
              have ht := HI.out.dg.getD (i := i + k) (by omega)
              have c0 := HI.out.c0; have c1 := HI.out.c1
              generalize D.getD k 0 = b at *
              have HSTEPk := Lib.hid (fun c' t' => HI.out.step (c' := c') (t' := t') hlt hltk HAV.out HBV.out)
              generalize ht9 : L2.getD (i + k) 0 = t at hc hf ht HSTEPk
              clear ht9
              obtain ⟨hi9, lo9, lo1, c1', t1, c2, e1, e2, e3, e4, e5, e6, q1, q2, q3, q4, q5, q6, q7, q8, q9, q10, q11, q12, q13, q14⟩ := mul_digit (a := a) (b := b) (c := cv) (t := t) ha hb ⟨c0, c1⟩ ht
              have hadd1 := fun W => add64_run lo9 cv 0 q3 c0 (by omega) (by omega) W
              have hadd2 := fun W => add64_run t lo1 0 ht.1 q5 (by omega) (by omega) W
              have HMUL := Lib.hid (mul64_any a b ha hb)
              rw [e1, e2] at HMUL
              rw [e3, e4] at hadd1
              rw [e5, e6] at hadd2
              have HSET := Lib.hid (HM2.out.2.1.setInt0 (i + k) (by omega) t1)
              have HNEW := Lib.hid (HSTEPk.out (hi9 + c1' + c2) t1 q11 q12 (by omega) q13 q14)
              have HKM := Lib.hid HM2.out.1; have HZM := Lib.hid HM2.out.2.2
              clear e1 e2 e3 e4 e5 e6 q14 HM2 HI HSTEPk
              go_wp2_with (go_at_call 88; refine (HMUL.out _).mono ?_; rintro e W1 ⟨rfl, rfl⟩)
              go_roundw
              case rel => exact ⟨k + 1, _, hi9 + c1' + c2, by omega, by go_num, by first | rfl | go_num, HNEW, Lib.hid ⟨keeps_set HKM.out (by omega) _, HSET.out, HZM.out.other (show p + 1 ≠ p by omega) _⟩⟩
              case measure => simp [intOf]; omega
            · obtain rfl : k = 3 := by omega
              have HC0 := Lib.hid (HI.out.out HLO.out.1 HLO.out.2 HHI.out.1 (by have := HHI.out.2; rwa [HHL.out] at this) HD0.out.1 HD0.out.2)
              clear HI
              generalize hC : lo + Hn % 18446744073709551616 ^ (i + 1) * d = C at HC0
              have HC := Lib.hid hC
              clear hC
              go_wp2
              go_loopw [8, 14] (fun cc kk wr => ∃ (k : Nat) (L : List Int) (cv : Int), k ≤ 8 ∧ kk = .int .i64 k ∧ cc = .int .u64 cv ∧ Hid (FoldC C k L cv) ∧ Hid (FoldMem w wr p L Z)) (fun _ kk _ => (8 - intOf kk).toNat)
              case atStart => exact ⟨i + 3, _, cv, by omega, by go_num, rfl, HC0, HM2⟩
              case round =>
                obtain ⟨k, L3, c, hk8, rfl, rfl, HI, HM3⟩ := hrel
                by_cases hc0 : c = 0
                · subst hc0
                  have HN := Lib.hid (FoldC.out (by rw [HC.out]; exact HI.out))
                  go_wp2
                  go_roundw
                  case rel => exact ⟨i + 1, _, by omega, by go_num, HN, HM3⟩
                  case measure => simp [intOf]; omega
                · have hk7 := HI.out.lt hc0
                  have z1 : (c != 0) = true := by rw [bne_iff_ne]; exact hc0
                  have hL3 := HI.out.len
                  have hc := HM3.out.2.1.int0 k (by omega)
                  have hf := HM3.out.2.1.free0 k (by rw [List.length_map]; omega)
                  have ht := HI.out.dg.getD (i := k) (by omega)
                  have c0 := HI.out.c0; have c1 := HI.out.c1
                  have HST := Lib.hid (fun c' t' => HI.out.step (c' := c') (t' := t') hk7)
                  generalize ht9 : L3.getD k 0 = t at hc hf ht HST
                  clear ht9
                  obtain ⟨t1, c2, e1, e2, q1, q2, q3, q4, q5⟩ : ∃ t1 c2 : Int, (t + c + 0) % 18446744073709551616 = t1 ∧ (t + c + 0) / 18446744073709551616 = c2 ∧ 0 ≤ t1 ∧ t1 < 18446744073709551616 ∧ 0 ≤ c2 ∧ c2 < 18446744073709551616 ∧ t1 + 18446744073709551616 * c2 = t + c := ⟨_, _, rfl, rfl, by omega, by omega, by omega, by omega, by omega⟩
                  have hadd1 := fun W => add64_run t c 0 ht.1 c0 (by omega) (by omega) W
                  rw [e1, e2] at hadd1
                  have HSET := Lib.hid (HM3.out.2.1.setInt0 k (by omega) t1)
                  have HNEW := Lib.hid (HST.out c2 t1 q1 q2 q3 q4 q5)
                  have HKM := Lib.hid HM3.out.1; have HZM := Lib.hid HM3.out.2.2
                  clear e1 e2 q5 HM3 HI HST hc0
                  go_wp2
                  go_roundw
                  case rel => exact ⟨k + 1, _, c2, by omega, by go_num, by first | rfl | go_num, HNEW, Lib.hid ⟨keeps_set HKM.out (by omega) _, HSET.out, HZM.out.other (show p + 1 ≠ p by omega) _⟩⟩
                  case measure => simp [intOf]; omega
        · obtain rfl : i = 4 := by omega
          have hv := HS.out.val
          rw [Int.emod_eq_of_lt HHI.out.1 (by have := HHI.out.2; rwa [HHL.out] at this)] at hv
          have HV := Lib.hid hv
          have HLD := Lib.hid (val_range (B := 18446744073709551616) (by decide) HS.out.dg).1
          clear hv
          go_wp2
          go_roundg ((val 18446744073709551616 L1).toNat)
          case measure => have e1 := HV.out; have e2 := HNX.out.2; have e3 := HGK.out; have e4 := HLD.out; omega
          case rel => exact ⟨L1, rfl, Lib.hid ⟨HS.out.len, HS.out.dg, by rw [HV.out]; exact HNX.out.1⟩, HMM⟩
end Go.Proofs.YtlofddoojkeakaaDoor
