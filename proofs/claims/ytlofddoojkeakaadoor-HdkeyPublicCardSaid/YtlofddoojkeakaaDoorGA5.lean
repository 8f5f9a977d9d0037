/- curve's numbers: read from bytes, subtracted, whether nought, below a modulus. No condition. -/
import Derived.Test.YtlofddoojkeakaaDoorGA4
namespace Go.Proofs.YtlofddoojkeakaaDoor
set_option linter.unusedVariables false
set_option linter.unusedSimpArgs false
open Go Go.RowKit

theorem sz_cnum : (Tryd.prog.info? 70).map (·.size) = some 4 := by kernel_rfl
theorem num_equal (x y : Int) (hx : U256 x) (hy : U256 y) (W : World) : (Op.equalIn 10000 70 (.agg ((words x).map (Value.int .u64)).toArray) (.agg ((words y).map (Value.int .u64)).toArray)).run Tryd.prog W = .ok (decide (x = y)) W := by
  rw [arr_equal W 70 54 4 .u64 (by kernel_rfl) Tryd.underlying70 Tryd.underlying54 (by kernel_rfl) (by kernel_rfl) (words x) (words y) rfl (words_wf x) rfl (words_wf y)]
  have : decide (words x = words y) = decide (x = y) := by
    by_cases h : x = y
    · rw [decide_eq_true h, h]; simp
    · rw [decide_eq_false h, decide_eq_false (fun e => h (words_inj hx hy e))]
  rw [this]
set_option maxRecDepth 100000 in
set_option maxHeartbeats 4000000 in
theorem cnumber_any (v : Value) (l : List Int) (w : World) (hr : Rd w 1 v 32 (l.map (Value.int .u8))) (hb : Bytes l) (hl : l.length = 32) :
    Calls Tryd.prog 35 #[v] w fun e w' => e = .returned (.agg ((words (be l)).map (Value.int .u64)).toArray) ∧ Keeps w w' := by
  obtain ⟨g, off, cap, rfl, hg, hrow⟩ : ∃ g off cap, v = .slice (some ⟨g, off, none⟩) 32 cap ∧ g < w.heap.size ∧ Row w g off (l.map (Value.int .u8)) := by
    obtain ⟨_, a, cap, rfl, h2, h3, h4, h5⟩ := hr
    cases a with
    | none => have := (h4 rfl).1; omega
    | some ad =>
      obtain ⟨g, off, rfl, hg, hr⟩ := h5 ad rfl (by omega)
      exact ⟨g, off, cap, rfl, hg, hr⟩
  have HB := Lib.hid hb
  have HW := Lib.hid (wst_full hb hl)
  have HRD := Lib.hid hrow
  clear hr hrow
  go_enter Tryd.func35, Tryd.ntmps35
  go_upto_region 2 with (fail)
  refine cu_rows2 (fun W hk hr2 hr3 hs => ?_)
  obtain ⟨p, hp⟩ : ∃ p, p = w.heap.size := ⟨_, rfl⟩
  rw [← hp] at hr2 hr3 hs hg ⊢
  have hkp : w.heap.size ≤ p := by omega
  obtain ⟨Z, hZ, hrz⟩ : ∃ Z : List Value, Z.length = 4 ∧ Row W p 0 Z := ⟨_, rfl, hr2⟩
  have HR2 := Lib.hid hrz
  have HR3 := Lib.hid (show Row W (p + 1) 0 ((wst l 0).map (Value.int .u64)) by rw [wst_zero]; exact hr3)
  have HK := Lib.hid hk
  clear hp hr2 hrz hr3 hk hb hs
  go_wp2
  go_loopw [4, 5, 6, 9] (fun _ _ _ c wr => ∃ i : Nat, i ≤ 32 ∧ c = .int .i64 i ∧ Keeps w wr ∧ Row wr p 0 Z ∧ Row wr (p + 1) 0 ((wst l i).map (Value.int .u64))) (fun _ _ _ c _ => (32 - intOf c).toNat)
  case atStart => exact ⟨0, by omega, rfl, HK.out, HR2.out, HR3.out⟩
  case round =>
    obtain ⟨i, hi, rfl, hk, hr2, hr3⟩ := hrel
    by_cases hlt : i < 32
    · have hcz := (HRD.out.keeps hk).int i (by rw [hl]; exact hlt)
      have b1 := HB.out.getD i
      have c3 := hr3.int0 (3 - i / 8) (by simp [wst]; omega)
      rw [wst_getD _ _ _ (by omega)] at c3
      have f3 := hr3.free0 (3 - i / 8) (by simp [wst]; omega)
      have hs := hr3.setInt0 (3 - i / 8) (by simp [wst]; omega) (wcell l i (3 - i / 8) * 256 + l.getD i 0)
      rw [wst_set HB.out hl hlt] at hs
      have hr := wcell_range HB.out i (3 - i / 8)
      have hr' := (wcell_step HB.out hl hlt).2.1
      generalize l.getD i 0 = y at *
      generalize wcell l i (3 - i / 8) = x at *
      obtain ⟨b00, b01⟩ := b1
      obtain ⟨x0, x1⟩ := hr
      have HOR := Lib.hid (show bits .or .u64 (x * 256) y = x * 256 + y by exact nm_u64_join 8 (x * 256) y (by omega) (by omega) (by omega) (by omega) (by omega) (by omega))
      have HS := Lib.hid hs; have H2 := Lib.hid hr2; have HK2 := Lib.hid hk
      clear hs hr2 hr3 hk
      go_wp2
      go_roundw
      case rel => exact ⟨i + 1, by omega, by go_num, keeps_set HK2.out (by omega) _, H2.out.other (by simp) _, by rw [HOR.out]; exact HS.out⟩
      case measure => simp [intOf]; omega
    · obtain rfl : i = 32 := by omega
      rw [HW.out] at hr3
      have H2 := Lib.hid hr2; have H3 := Lib.hid hr3; have HK2 := Lib.hid hk
      clear hr2 hr3 hk
      have hl9 := words_length (be l)
      generalize hRR : words (be l) = RR at *
      have HRR := Lib.hid hRR
      clear hRR
      go_wp2_with (first | (refine wpList_load_at rfl 70 (.tmp 3) rfl _ 0 rfl (RR.map (Value.int .u64)) _ H3.out Tryd.underlying70 rfl (by rw [List.length_map, hl9]; exact sz_cnum) ?_) | (refine wpList_store_row rfl 70 (.tmp 2) (.tmp 27) rfl p 0 rfl Z (RR.map (Value.int .u64)) rfl H2.out (by rw [List.length_map, hl9, hZ]) (by rw [List.length_map, hl9]; exact sz_cnum) (int_oneCell _) ?_; intro w9 hr9 hc9; have H9 := Lib.hid hr9; have HC9 := Lib.hid hc9; clear hr9 hc9))
      exact bodyPost_ret (v := .agg (RR.map (Value.int .u64)).toArray) (results_cell_at (p := 2) (ty := 70) rfl _ _ p 0 _ _ rfl H9.out Tryd.underlying70 rfl (by rw [List.length_map, hl9]; exact sz_cnum)) rfl ⟨by rw [HRR.out], nm_keeps_chg HK2.out HC9.out (by omega)⟩
set_option maxRecDepth 100000 in
set_option maxHeartbeats 4000000 in
theorem csub_any (u v : Int) (hu : U256 u) (hv : U256 v) (w : World) :
    Calls Tryd.prog 64 #[.agg ((words u).map (Value.int .u64)).toArray, .agg ((words v).map (Value.int .u64)).toArray] w fun e w' => e = .returned (.tuple #[.agg ((words (u - v)).map (Value.int .u64)).toArray, .bool (decide (u < v))]) ∧ Keeps w w' := by
  have hc4 := wborrow_four hu.1 hu.2 hv.1 hv.2
  have hcase : (wborrow u v 4 = 1 ∧ decide (u < v) = true) ∨ (wborrow u v 4 = 0 ∧ decide (u < v) = false) := by
    by_cases h : u < v
    · rw [if_pos h] at hc4; exact .inl ⟨hc4, decide_eq_true h⟩
    · rw [if_neg h] at hc4; exact .inr ⟨hc4, decide_eq_false h⟩
  clear hc4
  have hset := mixW_set (u - v) 0
  have hlen := mixW_length (u - v) 0
  have hzero := mixW_zero (u - v) 0
  have hfull := mixW_full (u - v) 0
  have hstep := wborrow_step u v
  have hr1 := words_range u
  have hr2 := words_range v
  have hul := words_length u
  have hvl := words_length v
  have hrl := words_length (u - v)
  generalize mixW (u - v) 0 = M at *
  generalize words u = U at *
  generalize words v = V at *
  generalize words (u - v) = R at *
  have HSET := Lib.hid hset; have HLEN := Lib.hid hlen; have HZERO := Lib.hid hzero; have HFULL := Lib.hid hfull; have HSTEP := Lib.hid hstep; have HR1 := Lib.hid hr1; have HR2 := Lib.hid hr2; have HUL := Lib.hid hul; have HVL := Lib.hid hvl; have HRL := Lib.hid hrl
  have HC0 := Lib.hid (wborrow_zero u v)
  have HCR := Lib.hid (wborrow_range u v)
  have HCA := Lib.hid hcase
  clear hset hlen hzero hfull hstep hr1 hr2 hul hvl hrl hcase hu hv
  generalize wborrow u v = C at *
  generalize decide (u < v) = D at *
  go_enter Tryd.func64, Tryd.ntmps64
  go_upto_region 2 with (fail)
  refine wp_rows4 (fun W hk hra hrb hr2 hr3 hs => ?_)
  obtain ⟨p, hp⟩ : ∃ p, p = w.heap.size := ⟨_, rfl⟩
  rw [← hp] at hra hrb hr2 hr3 hs ⊢
  have hkp : w.heap.size ≤ p := by omega
  obtain ⟨Z, hZ, hrz⟩ : ∃ Z : List Value, Z.length = 4 ∧ Row W (p + 1 + 1) 0 Z := ⟨_, rfl, hr2⟩
  have HRA := Lib.hid (show Row W p 0 (U.map (Value.int .u64)) from hra); have HRB := Lib.hid (show Row W (p + 1) 0 (V.map (Value.int .u64)) from hrb); have HRZ := Lib.hid hrz; have HK := Lib.hid hk
  have HRM := Lib.hid (show Row W (p + 1 + 1 + 1) 0 ((M 0).map (Value.int .u64)) by rw [HZERO.out]; exact hr3)
  clear hp hra hrb hr2 hr3 hrz hk hs
  go_wp2
  go_loopw [7, 8, 9] (fun cc _ c wr => ∃ i : Nat, i ≤ 4 ∧ c = .int .i64 i ∧ cc = .int .u64 (C i) ∧ Keeps w wr ∧ Row wr p 0 (U.map (Value.int .u64)) ∧ Row wr (p + 1) 0 (V.map (Value.int .u64)) ∧ Row wr (p + 1 + 1) 0 Z ∧ Row wr (p + 1 + 1 + 1) 0 ((M i).map (Value.int .u64))) (fun _ _ c _ => (4 - intOf c).toNat)
  case atStart => exact ⟨0, by omega, rfl, by rw [HC0.out], HK.out, HRA.out, HRB.out, HRZ.out, HRM.out⟩
  case round =>
    obtain ⟨i, hi, rfl, rfl, hk, hra, hrb, hrz, hrm⟩ := hrel
    by_cases hlt : i < 4
    · have c1 := hra.int0 i (by rw [HUL.out]; exact hlt)
      have c2 := hrb.int0 i (by rw [HVL.out]; exact hlt)
      have c3 := hrm.int0 i (by rw [HLEN.out i hi]; exact hlt)
      have f3 := hrm.free0 i (by rw [List.length_map, HLEN.out i hi]; exact hlt)
      obtain ⟨s1, s2⟩ := HSTEP.out i hlt
      obtain ⟨x0, x1⟩ := HR1.out i hlt
      obtain ⟨y0, y1⟩ := HR2.out i hlt
      obtain ⟨z0, z1⟩ := HCR.out i
      have hset := hrm.setInt0 i (by rw [HLEN.out i hi]; exact hlt) (R.getD i 0)
      rw [HSET.out i hlt, ← s2] at hset
      have HS1 := Lib.hid s1
      generalize U.getD i 0 = x at *
      generalize V.getD i 0 = y at *
      generalize C i = z at *
      have hadd := sub64_run x y z x0 x1 y0 y1 z0 z1
      have HSET2 := Lib.hid hset; have H1 := Lib.hid hra; have H2 := Lib.hid hrb; have H3 := Lib.hid hrz; have HK2 := Lib.hid hk
      clear hset hra hrb hrz hrm hk s1 s2
      go_wp2
      go_region
      go_wp2
      go_roundw
      case rel => exact ⟨i + 1, by omega, by go_num, by rw [← HS1.out], keeps_drew1 (keeps_set HK2.out (by omega) _), (H1.out.other (show p ≠ p + 1 + 1 + 1 by omega) _).drew, (H2.out.other (show p + 1 ≠ p + 1 + 1 + 1 by omega) _).drew, (H3.out.other (show p + 1 + 1 ≠ p + 1 + 1 + 1 by omega) _).drew, by exact HSET2.out⟩
      case measure => simp [intOf]; omega
    · obtain rfl : i = 4 := by omega
      rw [HFULL.out] at hrm
      have H2 := Lib.hid hrz; have H3 := Lib.hid hrm; have HK2 := Lib.hid hk
      clear hra hrb hrz hrm hk
      have hl9 := HRL.out
      rcases HCA.out with ⟨hc, rfl⟩ | ⟨hc, rfl⟩
      all_goals
        rw [hc]
        clear hc
        go_wp2_with (first | (refine wpList_load_at rfl 70 (.tmp 6) rfl _ 0 rfl (R.map (Value.int .u64)) _ H3.out Tryd.underlying70 rfl (by rw [List.length_map, hl9]; exact sz_cnum) ?_) | (refine wpList_store_row rfl 70 (.tmp 4) (.tmp 26) rfl (p + 1 + 1) 0 rfl Z (R.map (Value.int .u64)) rfl H2.out (by rw [List.length_map, hl9, hZ]) (by rw [List.length_map, hl9]; exact sz_cnum) (int_oneCell _) ?_; intro w9 hr9 hc9; have H9 := Lib.hid hr9; have HC9 := Lib.hid hc9; clear hr9 hc9))
        refine bodyPost_ret (results_cell_tmpB (p := 4) (t := 5) (ty := 70) rfl _ _ (p + 1 + 1) 0 _ _ _ rfl rfl H9.out Tryd.underlying70 rfl (by rw [List.length_map, hl9]; exact sz_cnum)) rfl ⟨rfl, nm_keeps_chg HK2.out HC9.out (by omega)⟩
theorem built_num0 : Tryd.prog.built 70 [] = some ((words 0).map (Value.int .u64)).toArray := by kernel_rfl
set_option maxRecDepth 100000 in
theorem czero_any (x : Int) (hx : U256 x) (w : World) : Calls Tryd.prog 38 #[.agg ((words x).map (Value.int .u64)).toArray] w fun e w' => e = .returned (.bool (decide (x = 0))) ∧ Keeps w w' := by
  have HE := Lib.hid (fun W => num_equal x 0 hx ⟨by omega, by decide⟩ W)
  have hl := words_length x
  generalize words x = X at *
  generalize decide (x = 0) = D at *
  go_enter Tryd.func38, Tryd.ntmps38
  go_upto_region 1 with (fail)
  refine cu_rows1 (fun W hk hr hs => ?_)
  have HR := Lib.hid (show Row W w.heap.size 0 (X.map (Value.int .u64)) from hr); have HK := Lib.hid hk
  clear hk hr hs
  go_wp2_with (first | (refine wpList_load_at rfl 70 (.tmp 1) rfl w.heap.size 0 rfl _ _ HR.out Tryd.underlying70 rfl (by rw [List.length_map, hl]; exact sz_cnum) ?_) | (refine cu_build (by kernel_rfl) 70 _ rfl [] rfl _ built_num0 ?_) | (refine cu_eql (by kernel_rfl) 70 70 (.tmp 3) (.tmp 4) rfl _ _ rfl rfl D HE.out (by kernel_rfl) ?_))
  go_ret
  exact ⟨rfl, HK.out⟩
set_option maxRecDepth 100000 in
set_option maxHeartbeats 1000000 in
theorem below_any (g off : Nat) (m x : Int) (hm : U256 m) (hx : U256 x) (w : World) (hr : Row w g off ((words m).map (Value.int .u64))) :
    Calls Tryd.prog 36 #[.pointer (some ⟨g, off, none⟩), .agg ((words x).map (Value.int .u64)).toArray] w fun e w' => e = .returned (.bool (decide (x < m))) ∧ Keeps w w' := by
  have HSUB := Lib.hid (csub_any x m hx hm)
  have hl := words_length x
  have hml := words_length m
  have hdl := words_length (x - m)
  have HROW := Lib.hid hr
  clear hr
  generalize words x = X at *
  generalize words m = MM at *
  generalize words (x - m) = R at *
  generalize decide (x < m) = D at *
  go_enter Tryd.func36, Tryd.ntmps36
  go_upto_region 1 with (fail)
  refine cu_rows1 (fun W hk hr hs => ?_)
  obtain ⟨p, hp⟩ : ∃ p, p = w.heap.size := ⟨_, rfl⟩
  rw [← hp] at hr hs ⊢
  have HR := Lib.hid (show Row W p 0 (X.map (Value.int .u64)) from hr); have HK := Lib.hid hk
  have HRM := Lib.hid (HROW.out.keeps hk)
  clear hk hr hs hp HROW
  go_cut [6] (fun s6 wx => Keeps W wx ∧ s6 = .bool D)
  case first =>
    refine wp_region_held_drew (S := (fun W' => Keeps W W')) (by kernel_rfl) ?_ (fun hHeld => ?_)
    focus ((try dsimp only); exact keeps_drew1 (Keeps.refl _))
    generalize W.drew = W0 at hHeld ⊢
    refine wpAnyH_take (i := 0) (oi := ?_) (v := ?_) ?_ ?_ ?_ ?_ ?_ ?_ ?_ ?_
    rotate_left 2
    focus (simp only [List.getElem?_toArray, List.getElem?_cons_succ, List.getElem?_cons_zero]; exact rfl)
    iterate 3 focus kernel_rfl
    focus (exact fun _ _ _ h => h)
    focus (refine cu_yields_row ?_ 70 (.tmp 3) ?_ p 0 ?_ (X.map (Value.int .u64)) _ ?_ Tryd.underlying70 ?_ (by rw [List.length_map, hl]; exact sz_cnum) <;> first | rfl | exact (fun w hw => HR.out.keeps hw))
    focus assumption
    try simp only [Act.put, List.setIfInBounds_toArray, List.set_cons_zero, List.set_cons_succ]
    refine wpAnyH_take (i := 1) (oi := ?_) (v := ?_) ?_ ?_ ?_ ?_ ?_ (Or.inl ⟨?_, ?_⟩) ?_ ?_
    rotate_left 2
    focus (simp only [List.getElem?_toArray, List.getElem?_cons_succ, List.getElem?_cons_zero]; exact rfl)
    iterate 3 focus kernel_rfl
    focus (exact fun _ _ _ h => h)
    focus rfl
    focus ((intro w hSw; (try dsimp only at hSw); go_simp) <;> with_reducible rfl)
    focus assumption
    try simp only [Act.put, List.setIfInBounds_toArray, List.set_cons_zero, List.set_cons_succ]
    refine wpAnyH_take (i := 2) (oi := ?_) (v := ?_) ?_ ?_ ?_ ?_ ?_ (Or.inl ⟨?_, ?_⟩) ?_ ?_
    rotate_left 2
    focus (simp only [List.getElem?_toArray, List.getElem?_cons_succ, List.getElem?_cons_zero]; exact rfl)
    iterate 3 focus kernel_rfl
    focus (exact fun _ _ _ h => h)
    focus rfl
    focus ((intro w hSw; (try dsimp only at hSw); go_simp) <;> with_reducible rfl)
    focus assumption
    try simp only [Act.put, List.setIfInBounds_toArray, List.set_cons_zero, List.set_cons_succ]
    refine wpAnyH_take (i := 3) (oi := ?_) (v := ?_) ?_ ?_ ?_ ?_ ?_ (Or.inl ⟨?_, ?_⟩) ?_ ?_
    rotate_left 2
    focus (simp only [List.getElem?_toArray, List.getElem?_cons_succ, List.getElem?_cons_zero]; exact rfl)
    iterate 3 focus kernel_rfl
    focus (exact fun _ _ _ h => h)
    focus rfl
    focus ((intro w hSw; (try dsimp only at hSw); go_simp) <;> with_reducible rfl)
    focus assumption
    try simp only [Act.put, List.setIfInBounds_toArray, List.set_cons_zero, List.set_cons_succ]
    refine wpAnyH_take (i := 4) (oi := ?_) (v := ?_) ?_ ?_ ?_ ?_ ?_ ?_ ?_ ?_
    rotate_left 2
    focus (simp only [List.getElem?_toArray, List.getElem?_cons_succ, List.getElem?_cons_zero]; exact rfl)
    iterate 3 focus kernel_rfl
    focus (exact fun _ _ _ h => h)
    focus (refine cu_yields_row ?_ 70 (.tmp 11) ?_ g off ?_ (MM.map (Value.int .u64)) _ ?_ Tryd.underlying70 ?_ (by rw [List.length_map, hml]; exact sz_cnum) <;> first | rfl | exact (fun w hw => HRM.out.keeps hw))
    focus assumption
    try simp only [Act.put, List.setIfInBounds_toArray, List.set_cons_zero, List.set_cons_succ]
    refine wpAnyH_ready (rs := [5, 9]) (by kernel_rfl) (by simp) ?_
    refine AllReadyH.cons (o := ?_) ?_ (fun K hK => ?_) ?_
    rotate_left 1
    focus (simp only [List.getElem?_toArray, List.getElem?_cons_succ, List.getElem?_cons_zero]; exact rfl)
    · rw [if_pos (by rfl)]
      go_simp; go_at_call 64; refine (HSUB.out _).mono ?_; rintro e W1 ⟨rfl, hk1⟩
      refine hK.out _ _ ?_ ?_
      focus ((try dsimp only); first | exact Keeps.trans (by assumption) (by assumption) | exact nm_keeps_alloc (by assumption) _ | exact hHeld | exact nm_keeps_chg (by assumption) hc9 hg8)
      clear hK K hHeld
      intro hHeld
      try simp only [Act.put, List.setIfInBounds_toArray, List.set_cons_zero, List.set_cons_succ]
      refine wpAnyH_take (i := 6) (oi := ?_) (v := ?_) ?_ ?_ ?_ ?_ ?_ (Or.inl ⟨?_, ?_⟩) ?_ ?_
      rotate_left 2
      focus (simp only [List.getElem?_toArray, List.getElem?_cons_succ, List.getElem?_cons_zero]; exact rfl)
      iterate 3 focus kernel_rfl
      focus (exact fun _ _ _ h => h)
      focus rfl
      focus ((intro w hSw; (try dsimp only at hSw); go_simp) <;> with_reducible rfl)
      focus assumption
      try simp only [Act.put, List.setIfInBounds_toArray, List.set_cons_zero, List.set_cons_succ]
      refine wpAnyH_take (i := 7) (oi := ?_) (v := ?_) ?_ ?_ ?_ ?_ ?_ (Or.inl ⟨?_, ?_⟩) ?_ ?_
      rotate_left 2
      focus (simp only [List.getElem?_toArray, List.getElem?_cons_succ, List.getElem?_cons_zero]; exact rfl)
      iterate 3 focus kernel_rfl
      focus (exact fun _ _ _ h => h)
      focus rfl
      focus ((intro w hSw; (try dsimp only at hSw); go_simp) <;> with_reducible rfl)
      focus assumption
      try simp only [Act.put, List.setIfInBounds_toArray, List.set_cons_zero, List.set_cons_succ]
      refine wpAnyH_take (i := 8) (oi := ?_) (v := ?_) ?_ ?_ ?_ ?_ ?_ (Or.inl ⟨?_, ?_⟩) ?_ ?_
      rotate_left 2
      focus (simp only [List.getElem?_toArray, List.getElem?_cons_succ, List.getElem?_cons_zero]; exact rfl)
      iterate 3 focus kernel_rfl
      focus (exact fun _ _ _ h => h)
      focus rfl
      focus ((intro w hSw; (try dsimp only at hSw); go_simp) <;> with_reducible rfl)
      focus assumption
      try simp only [Act.put, List.setIfInBounds_toArray, List.set_cons_zero, List.set_cons_succ]
      refine wpAnyH_ready (rs := [9]) (by kernel_rfl) (by simp) ?_
      refine AllReadyH.cons (o := ?_) ?_ (fun K hK => ?_) ?_
      rotate_left 1
      focus (simp only [List.getElem?_toArray, List.getElem?_cons_succ, List.getElem?_cons_zero]; exact rfl)
      · rw [if_pos (by rfl)]
        go_simp; have hg8 := hHeld.size
        refine hK.out _ _ ?_ ?_
        focus ((try dsimp only); first | exact Keeps.trans (by assumption) (by assumption) | exact nm_keeps_alloc (by assumption) _ | exact hHeld | exact nm_keeps_chg (by assumption) hc9 hg8)
        clear hK K hHeld
        intro hHeld
        try simp only [Act.put, List.setIfInBounds_toArray, List.set_cons_zero, List.set_cons_succ]
        refine wpAnyH_ready (rs := [10]) (by kernel_rfl) (by simp) ?_
        refine AllReadyH.cons (o := ?_) ?_ (fun K hK => ?_) ?_
        rotate_left 1
        focus (simp only [List.getElem?_toArray, List.getElem?_cons_succ, List.getElem?_cons_zero]; exact rfl)
        · rw [if_pos (by rfl)]
          refine cu_store_rowK 70 (.tmp 5) (.tmp 14) rfl _ 0 rfl [.int .u64 0, .int .u64 0, .int .u64 0, .int .u64 0] (R.map (Value.int .u64)) rfl (by first | exact Row.new _ _ _ rfl | exact (Row.new _ _ _ rfl).keeps hk1) (by simp [hdl]) (by rw [List.length_map, hdl]; exact sz_cnum) (int_oneCell _) ?_; intro W9 hr9 hc9
          refine hK.out _ _ ?_ ?_
          focus ((try dsimp only); first | exact Keeps.trans (by assumption) (by assumption) | exact nm_keeps_alloc (by assumption) _ | exact hHeld | exact nm_keeps_chg (by assumption) hc9 hg8)
          clear hK K hHeld
          intro hHeld
          try simp only [Act.put, List.setIfInBounds_toArray, List.set_cons_zero, List.set_cons_succ]
          refine wpAnyH_ready (rs := [11]) (by kernel_rfl) (by simp) ?_
          refine AllReadyH.cons (o := ?_) ?_ (fun K hK => ?_) ?_
          rotate_left 1
          focus (simp only [List.getElem?_toArray, List.getElem?_cons_succ, List.getElem?_cons_zero]; exact rfl)
          · rw [if_pos (by rfl)]
            go_simp
            refine hK.out _ _ ?_ ?_
            focus ((try dsimp only); first | exact Keeps.trans (by assumption) (by assumption) | exact nm_keeps_alloc (by assumption) _ | exact hHeld | exact nm_keeps_chg (by assumption) hc9 hg8)
            clear hK K hHeld
            intro hHeld
            try simp only [Act.put, List.setIfInBounds_toArray, List.set_cons_zero, List.set_cons_succ]
            refine wpAnyH_done (by kernel_rfl) ?_ _
            (go_wp2; go_meet; case rel => exact ⟨by assumption, rfl⟩)
          exact AllReadyH.nil
        exact AllReadyH.nil
      exact AllReadyH.nil
    refine AllReadyH.cons (o := ?_) ?_ (fun K hK => ?_) ?_
    rotate_left 1
    focus (simp only [List.getElem?_toArray, List.getElem?_cons_succ, List.getElem?_cons_zero]; exact rfl)
    · rw [if_pos (by rfl)]
      go_simp; have hg8 := hHeld.size
      refine hK.out _ _ ?_ ?_
      focus ((try dsimp only); first | exact Keeps.trans (by assumption) (by assumption) | exact nm_keeps_alloc (by assumption) _ | exact hHeld | exact nm_keeps_chg (by assumption) hc9 hg8)
      clear hK K hHeld
      intro hHeld
      try simp only [Act.put, List.setIfInBounds_toArray, List.set_cons_zero, List.set_cons_succ]
      refine wpAnyH_ready (rs := [5]) (by kernel_rfl) (by simp) ?_
      refine AllReadyH.cons (o := ?_) ?_ (fun K hK => ?_) ?_
      rotate_left 1
      focus (simp only [List.getElem?_toArray, List.getElem?_cons_succ, List.getElem?_cons_zero]; exact rfl)
      · rw [if_pos (by rfl)]
        go_simp; go_at_call 64; refine (HSUB.out _).mono ?_; rintro e W1 ⟨rfl, hk1⟩
        refine hK.out _ _ ?_ ?_
        focus ((try dsimp only); first | exact Keeps.trans (by assumption) (by assumption) | exact nm_keeps_alloc (by assumption) _ | exact hHeld | exact nm_keeps_chg (by assumption) hc9 hg8)
        clear hK K hHeld
        intro hHeld
        try simp only [Act.put, List.setIfInBounds_toArray, List.set_cons_zero, List.set_cons_succ]
        refine wpAnyH_take (i := 6) (oi := ?_) (v := ?_) ?_ ?_ ?_ ?_ ?_ (Or.inl ⟨?_, ?_⟩) ?_ ?_
        rotate_left 2
        focus (simp only [List.getElem?_toArray, List.getElem?_cons_succ, List.getElem?_cons_zero]; exact rfl)
        iterate 3 focus kernel_rfl
        focus (exact fun _ _ _ h => h)
        focus rfl
        focus ((intro w hSw; (try dsimp only at hSw); go_simp) <;> with_reducible rfl)
        focus assumption
        try simp only [Act.put, List.setIfInBounds_toArray, List.set_cons_zero, List.set_cons_succ]
        refine wpAnyH_take (i := 7) (oi := ?_) (v := ?_) ?_ ?_ ?_ ?_ ?_ (Or.inl ⟨?_, ?_⟩) ?_ ?_
        rotate_left 2
        focus (simp only [List.getElem?_toArray, List.getElem?_cons_succ, List.getElem?_cons_zero]; exact rfl)
        iterate 3 focus kernel_rfl
        focus (exact fun _ _ _ h => h)
        focus rfl
        focus ((intro w hSw; (try dsimp only at hSw); go_simp) <;> with_reducible rfl)
        focus assumption
        try simp only [Act.put, List.setIfInBounds_toArray, List.set_cons_zero, List.set_cons_succ]
        refine wpAnyH_take (i := 8) (oi := ?_) (v := ?_) ?_ ?_ ?_ ?_ ?_ (Or.inl ⟨?_, ?_⟩) ?_ ?_
        rotate_left 2
        focus (simp only [List.getElem?_toArray, List.getElem?_cons_succ, List.getElem?_cons_zero]; exact rfl)
        iterate 3 focus kernel_rfl
        focus (exact fun _ _ _ h => h)
        focus rfl
        focus ((intro w hSw; (try dsimp only at hSw); go_simp) <;> with_reducible rfl)
        focus assumption
        try simp only [Act.put, List.setIfInBounds_toArray, List.set_cons_zero, List.set_cons_succ]
        refine wpAnyH_ready (rs := [10]) (by kernel_rfl) (by simp) ?_
        refine AllReadyH.cons (o := ?_) ?_ (fun K hK => ?_) ?_
        rotate_left 1
        focus (simp only [List.getElem?_toArray, List.getElem?_cons_succ, List.getElem?_cons_zero]; exact rfl)
        · rw [if_pos (by rfl)]
          refine cu_store_rowK 70 (.tmp 5) (.tmp 14) rfl _ 0 rfl [.int .u64 0, .int .u64 0, .int .u64 0, .int .u64 0] (R.map (Value.int .u64)) rfl (by first | exact Row.new _ _ _ rfl | exact (Row.new _ _ _ rfl).keeps hk1) (by simp [hdl]) (by rw [List.length_map, hdl]; exact sz_cnum) (int_oneCell _) ?_; intro W9 hr9 hc9
          refine hK.out _ _ ?_ ?_
          focus ((try dsimp only); first | exact Keeps.trans (by assumption) (by assumption) | exact nm_keeps_alloc (by assumption) _ | exact hHeld | exact nm_keeps_chg (by assumption) hc9 hg8)
          clear hK K hHeld
          intro hHeld
          try simp only [Act.put, List.setIfInBounds_toArray, List.set_cons_zero, List.set_cons_succ]
          refine wpAnyH_ready (rs := [11]) (by kernel_rfl) (by simp) ?_
          refine AllReadyH.cons (o := ?_) ?_ (fun K hK => ?_) ?_
          rotate_left 1
          focus (simp only [List.getElem?_toArray, List.getElem?_cons_succ, List.getElem?_cons_zero]; exact rfl)
          · rw [if_pos (by rfl)]
            go_simp
            refine hK.out _ _ ?_ ?_
            focus ((try dsimp only); first | exact Keeps.trans (by assumption) (by assumption) | exact nm_keeps_alloc (by assumption) _ | exact hHeld | exact nm_keeps_chg (by assumption) hc9 hg8)
            clear hK K hHeld
            intro hHeld
            try simp only [Act.put, List.setIfInBounds_toArray, List.set_cons_zero, List.set_cons_succ]
            refine wpAnyH_done (by kernel_rfl) ?_ _
            (go_wp2; go_meet; case rel => exact ⟨by assumption, rfl⟩)
          exact AllReadyH.nil
        exact AllReadyH.nil
      exact AllReadyH.nil
    exact AllReadyH.nil
  case rest =>
    obtain ⟨hk, rfl⟩ := hcut
    have HKW := Lib.hid (HK.out.trans hk)
    clear hk
    go_wp2
    go_ret
    exact ⟨rfl, HKW.out⟩
end Go.Proofs.YtlofddoojkeakaaDoor
