/- curve's numbers: added, halved, brought below a modulus; a field's sum and difference. No condition. | curve's field: a number brought below its modulus. No condition. -/
import Derived.Test.YtlofddoojkeakaaDoorGA5
namespace Go.Proofs.YtlofddoojkeakaaDoor
set_option linter.unusedVariables false
set_option linter.unusedSimpArgs false
open Go Go.RowKit

set_option maxRecDepth 100000 in
set_option maxHeartbeats 4000000 in
theorem cplus_any (u v : Int) (w : World) :
    Calls Tryd.prog 65 #[.agg ((words u).map (Value.int .u64)).toArray, .agg ((words v).map (Value.int .u64)).toArray] w fun e w' => e = .returned (.tuple #[.agg ((words (u + v)).map (Value.int .u64)).toArray, .int .u64 (wcarry u v 4)]) ∧ Keeps w w' := by
  have hset := mixW_set (u + v) 0
  have hlen := mixW_length (u + v) 0
  have hzero := mixW_zero (u + v) 0
  have hfull := mixW_full (u + v) 0
  have hstep := wcarry_step u v
  have hr1 := words_range u
  have hr2 := words_range v
  have hul := words_length u
  have hvl := words_length v
  have hrl := words_length (u + v)
  generalize mixW (u + v) 0 = M at *
  generalize words u = U at *
  generalize words v = V at *
  generalize words (u + v) = R at *
  have HSET := Lib.hid hset; have HLEN := Lib.hid hlen; have HZERO := Lib.hid hzero; have HFULL := Lib.hid hfull; have HSTEP := Lib.hid hstep; have HR1 := Lib.hid hr1; have HR2 := Lib.hid hr2; have HUL := Lib.hid hul; have HVL := Lib.hid hvl; have HRL := Lib.hid hrl
  have HC0 := Lib.hid (wcarry_zero u v)
  have HCR := Lib.hid (wcarry_range u v)
  clear hset hlen hzero hfull hstep hr1 hr2 hul hvl hrl
  generalize wcarry u v = C at *
  go_enter Tryd.func65, Tryd.ntmps65
  go_upto_region 2 with (fail)
  refine wp_rows4 (fun W hk hra hrb hr2 hr3 hs => ?_)
  obtain ⟨p, hp⟩ : ∃ p, p = w.heap.size := ⟨_, rfl⟩
  rw [← hp] at hra hrb hr2 hr3 hs ⊢
  have hkp : w.heap.size ≤ p := by omega
  obtain ⟨Z, hZ, hrz⟩ : ∃ Z : List Value, Z.length = 4 ∧ Row W (p + 1 + 1) 0 Z := ⟨_, rfl, hr2⟩
  have HRA := Lib.hid (show Row W p 0 (U.map (Value.int .u64)) from hra); have HRB := Lib.hid (show Row W (p + 1) 0 (V.map (Value.int .u64)) from hrb); have HRZ := Lib.hid hrz; have HK := Lib.hid hk
  have HRM := Lib.hid (show Row W (p + 1 + 1 + 1) 0 ((M 0).map (Value.int .u64)) by rw [HZERO.out]; exact hr3)
  clear hp hra hrb hr2 hr3 hrz hk hs
  go_wp2
  go_loopw [7, 8, 9] (fun cc _ c wr => ∃ i : Nat, i ≤ 4 ∧ c = .int .i64 i ∧ cc = .int .u64 (C i) ∧ Keeps w wr ∧ Row wr p 0 (U.map (Value.int .u64)) ∧ Row wr (p + 1) 0 (V.map (Value.int .u64)) ∧ Row wr (p + 1 + 1) 0 Z ∧ Row wr (p + 1 + 1 + 1) 0 ((M i).map (Value.int .u64))) (fun _ _ c _ => (4 - intOf c).toNat)
  case atStart => exact ⟨0, by omega, rfl, by rw [HC0.out], HK.out, HRA.out, HRB.out, HRZ.out, HRM.out⟩
  case round =>
    obtain ⟨i, hi, rfl, rfl, hk, hra, hrb, hrz, hrm⟩ := hrel
    by_cases hlt : i < 4
    · have c1 := hra.int0 i (by rw [HUL.out]; exact hlt)
      have c2 := hrb.int0 i (by rw [HVL.out]; exact hlt)
      have c3 := hrm.int0 i (by rw [HLEN.out i hi]; exact hlt)
      have f3 := hrm.free0 i (by rw [List.length_map, HLEN.out i hi]; exact hlt)
      obtain ⟨s1, s2⟩ := HSTEP.out i hlt
      obtain ⟨x0, x1⟩ := HR1.out i hlt
      obtain ⟨y0, y1⟩ := HR2.out i hlt
      obtain ⟨z0, z1⟩ := HCR.out i
      have hset := hrm.setInt0 i (by rw [HLEN.out i hi]; exact hlt) (R.getD i 0)
      rw [HSET.out i hlt, ← s2] at hset
      have HS1 := Lib.hid s1
      generalize U.getD i 0 = x at *
      generalize V.getD i 0 = y at *
      generalize C i = z at *
      have hadd := add64_run x y z x0 y0 z0 z1
      have HSET2 := Lib.hid hset; have H1 := Lib.hid hra; have H2 := Lib.hid hrb; have H3 := Lib.hid hrz; have HK2 := Lib.hid hk
      clear hset hra hrb hrz hrm hk s1 s2
      go_wp2
      go_region
      go_wp2
      go_roundw
      case rel => exact ⟨i + 1, by omega, by go_num, by rw [← HS1.out], keeps_drew1 (keeps_set HK2.out (by omega) _), (H1.out.other (show p ≠ p + 1 + 1 + 1 by omega) _).drew, (H2.out.other (show p + 1 ≠ p + 1 + 1 + 1 by omega) _).drew, (H3.out.other (show p + 1 + 1 ≠ p + 1 + 1 + 1 by omega) _).drew, by exact HSET2.out⟩
      case measure => simp [intOf]; omega
    · obtain rfl : i = 4 := by omega
      rw [HFULL.out] at hrm
      have H2 := Lib.hid hrz; have H3 := Lib.hid hrm; have HK2 := Lib.hid hk
      clear hra hrb hrz hrm hk
      have hl9 := HRL.out
      go_wp2_with (first | (refine wpList_load_at rfl 70 (.tmp 6) rfl _ 0 rfl (R.map (Value.int .u64)) _ H3.out Tryd.underlying70 rfl (by rw [List.length_map, hl9]; exact sz_cnum) ?_) | (refine wpList_store_row rfl 70 (.tmp 4) (.tmp 26) rfl (p + 1 + 1) 0 rfl Z (R.map (Value.int .u64)) rfl H2.out (by rw [List.length_map, hl9, hZ]) (by rw [List.length_map, hl9]; exact sz_cnum) (int_oneCell _) ?_; intro w9 hr9 hc9; have H9 := Lib.hid hr9; have HC9 := Lib.hid hc9; clear hr9 hc9))
      refine bodyPost_ret (v := .tuple #[.agg (R.map (Value.int .u64)).toArray, .int .u64 (C 4)]) (results_cell_tmpB (p := 4) (t := 5) (ty := 70) rfl _ _ (p + 1 + 1) 0 _ _ _ rfl rfl H9.out Tryd.underlying70 rfl (by rw [List.length_map, hl9]; exact sz_cnum)) rfl ⟨rfl, nm_keeps_chg HK2.out HC9.out (by omega)⟩
set_option maxRecDepth 100000 in
set_option maxHeartbeats 1000000 in
theorem in_any (g off : Nat) (m x : Int) (hm : U256 m) (hx : U256 x) (w : World) (hr : Row w g off ((words m).map (Value.int .u64))) :
    Calls Tryd.prog 66 #[.pointer (some ⟨g, off, none⟩), .agg ((words x).map (Value.int .u64)).toArray] w fun e w' => e = .returned (.agg ((words (if x < m then x else x - m)).map (Value.int .u64)).toArray) ∧ Keeps w w' := by
  have HSUB := Lib.hid (csub_any x m hx hm)
  have hl := words_length x
  have hml := words_length m
  have hdl := words_length (x - m)
  have HROW := Lib.hid hr
  have hcase : (decide (x < m) = true ∧ words (if x < m then x else x - m) = words x) ∨ (decide (x < m) = false ∧ words (if x < m then x else x - m) = words (x - m)) := by
    by_cases h : x < m
    · exact .inl ⟨decide_eq_true h, by rw [if_pos h]⟩
    · exact .inr ⟨decide_eq_false h, by rw [if_neg h]⟩
  clear hr
  generalize words (if x < m then x else x - m) = RES at *
  generalize words x = X at *
  generalize words m = MM at *
  generalize words (x - m) = R at *
  generalize decide (x < m) = D at *
  have HCA := Lib.hid hcase
  clear hcase
  go_enter Tryd.func66, Tryd.ntmps66
  go_upto_region 1 with (fail)
  refine cu_rows2 (fun W hk hr hr2 hs => ?_)
  obtain ⟨p, hp⟩ : ∃ p, p = w.heap.size := ⟨_, rfl⟩
  rw [← hp] at hr hr2 hs ⊢
  have hkp : w.heap.size ≤ p := by omega
  obtain ⟨Z, hZ, hrz⟩ : ∃ Z : List Value, Z.length = 4 ∧ Row W (p + 1) 0 Z := ⟨_, rfl, hr2⟩
  have HR := Lib.hid (show Row W p 0 (X.map (Value.int .u64)) from hr); have HK := Lib.hid hk; have HZ := Lib.hid hrz
  have HRM := Lib.hid (HROW.out.keeps hk)
  clear hk hr hr2 hrz hp HROW
  go_cut [5, 6] (fun s5 s6 wx => ∃ gt, s5 = .pointer (some ⟨gt, 0, none⟩) ∧ W.heap.size ≤ gt ∧ Row wx gt 0 (R.map (Value.int .u64)) ∧ Keeps W wx ∧ s6 = .bool D)
  case first =>
    refine wp_region_held_drew (S := (fun W' => Keeps W W')) (by kernel_rfl) ?_ (fun hHeld => ?_)
    focus ((try dsimp only); exact keeps_drew1 (Keeps.refl _))
    generalize W.drew = W0 at hHeld ⊢
    refine wpAnyH_take (i := 0) (oi := ?_) (v := ?_) ?_ ?_ ?_ ?_ ?_ ?_ ?_ ?_
    rotate_left 2
    focus (simp only [List.getElem?_toArray, List.getElem?_cons_succ, List.getElem?_cons_zero]; exact rfl)
    iterate 3 focus kernel_rfl
    focus (exact fun _ _ _ h => h)
    focus (refine cu_yields_row ?_ 70 (.tmp 3) ?_ p 0 ?_ (X.map (Value.int .u64)) _ ?_ Tryd.underlying70 ?_ (by rw [List.length_map, hl]; exact sz_cnum) <;> first | rfl | exact (fun w hw => HR.out.keeps hw))
    focus assumption
    try simp only [Act.put, List.setIfInBounds_toArray, List.set_cons_zero, List.set_cons_succ]
    refine wpAnyH_take (i := 1) (oi := ?_) (v := ?_) ?_ ?_ ?_ ?_ ?_ (Or.inl ⟨?_, ?_⟩) ?_ ?_
    rotate_left 2
    focus (simp only [List.getElem?_toArray, List.getElem?_cons_succ, List.getElem?_cons_zero]; exact rfl)
    iterate 3 focus kernel_rfl
    focus (exact fun _ _ _ h => h)
    focus rfl
    focus ((intro w hSw; (try dsimp only at hSw); go_simp) <;> with_reducible rfl)
    focus assumption
    try simp only [Act.put, List.setIfInBounds_toArray, List.set_cons_zero, List.set_cons_succ]
    refine wpAnyH_take (i := 2) (oi := ?_) (v := ?_) ?_ ?_ ?_ ?_ ?_ (Or.inl ⟨?_, ?_⟩) ?_ ?_
    rotate_left 2
    focus (simp only [List.getElem?_toArray, List.getElem?_cons_succ, List.getElem?_cons_zero]; exact rfl)
    iterate 3 focus kernel_rfl
    focus (exact fun _ _ _ h => h)
    focus rfl
    focus ((intro w hSw; (try dsimp only at hSw); go_simp) <;> with_reducible rfl)
    focus assumption
    try simp only [Act.put, List.setIfInBounds_toArray, List.set_cons_zero, List.set_cons_succ]
    refine wpAnyH_take (i := 3) (oi := ?_) (v := ?_) ?_ ?_ ?_ ?_ ?_ (Or.inl ⟨?_, ?_⟩) ?_ ?_
    rotate_left 2
    focus (simp only [List.getElem?_toArray, List.getElem?_cons_succ, List.getElem?_cons_zero]; exact rfl)
    iterate 3 focus kernel_rfl
    focus (exact fun _ _ _ h => h)
    focus rfl
    focus ((intro w hSw; (try dsimp only at hSw); go_simp) <;> with_reducible rfl)
    focus assumption
    try simp only [Act.put, List.setIfInBounds_toArray, List.set_cons_zero, List.set_cons_succ]
    refine wpAnyH_take (i := 4) (oi := ?_) (v := ?_) ?_ ?_ ?_ ?_ ?_ ?_ ?_ ?_
    rotate_left 2
    focus (simp only [List.getElem?_toArray, List.getElem?_cons_succ, List.getElem?_cons_zero]; exact rfl)
    iterate 3 focus kernel_rfl
    focus (exact fun _ _ _ h => h)
    focus (refine cu_yields_row ?_ 70 (.tmp 11) ?_ g off ?_ (MM.map (Value.int .u64)) _ ?_ Tryd.underlying70 ?_ (by rw [List.length_map, hml]; exact sz_cnum) <;> first | rfl | exact (fun w hw => HRM.out.keeps hw))
    focus assumption
    try simp only [Act.put, List.setIfInBounds_toArray, List.set_cons_zero, List.set_cons_succ]
    refine wpAnyH_ready (rs := [5, 9]) (by kernel_rfl) (by simp) ?_
    refine AllReadyH.cons (o := ?_) ?_ (fun K hK => ?_) ?_
    rotate_left 1
    focus (simp only [List.getElem?_toArray, List.getElem?_cons_succ, List.getElem?_cons_zero]; exact rfl)
    · rw [if_pos (by rfl)]
      go_simp; go_at_call 64; refine (HSUB.out _).mono ?_; rintro e W1 ⟨rfl, hk1⟩
      refine hK.out _ _ ?_ ?_
      focus ((try dsimp only); first | exact Keeps.trans (by assumption) (by assumption) | exact nm_keeps_alloc (by assumption) _ | exact hHeld | exact nm_keeps_chg (by assumption) hc9 hg8)
      clear hK K hHeld
      intro hHeld
      try simp only [Act.put, List.setIfInBounds_toArray, List.set_cons_zero, List.set_cons_succ]
      refine wpAnyH_take (i := 6) (oi := ?_) (v := ?_) ?_ ?_ ?_ ?_ ?_ (Or.inl ⟨?_, ?_⟩) ?_ ?_
      rotate_left 2
      focus (simp only [List.getElem?_toArray, List.getElem?_cons_succ, List.getElem?_cons_zero]; exact rfl)
      iterate 3 focus kernel_rfl
      focus (exact fun _ _ _ h => h)
      focus rfl
      focus ((intro w hSw; (try dsimp only at hSw); go_simp) <;> with_reducible rfl)
      focus assumption
      try simp only [Act.put, List.setIfInBounds_toArray, List.set_cons_zero, List.set_cons_succ]
      refine wpAnyH_take (i := 7) (oi := ?_) (v := ?_) ?_ ?_ ?_ ?_ ?_ (Or.inl ⟨?_, ?_⟩) ?_ ?_
      rotate_left 2
      focus (simp only [List.getElem?_toArray, List.getElem?_cons_succ, List.getElem?_cons_zero]; exact rfl)
      iterate 3 focus kernel_rfl
      focus (exact fun _ _ _ h => h)
      focus rfl
      focus ((intro w hSw; (try dsimp only at hSw); go_simp) <;> with_reducible rfl)
      focus assumption
      try simp only [Act.put, List.setIfInBounds_toArray, List.set_cons_zero, List.set_cons_succ]
      refine wpAnyH_take (i := 8) (oi := ?_) (v := ?_) ?_ ?_ ?_ ?_ ?_ (Or.inl ⟨?_, ?_⟩) ?_ ?_
      rotate_left 2
      focus (simp only [List.getElem?_toArray, List.getElem?_cons_succ, List.getElem?_cons_zero]; exact rfl)
      iterate 3 focus kernel_rfl
      focus (exact fun _ _ _ h => h)
      focus rfl
      focus ((intro w hSw; (try dsimp only at hSw); go_simp) <;> with_reducible rfl)
      focus assumption
      try simp only [Act.put, List.setIfInBounds_toArray, List.set_cons_zero, List.set_cons_succ]
      refine wpAnyH_ready (rs := [9]) (by kernel_rfl) (by simp) ?_
      refine AllReadyH.cons (o := ?_) ?_ (fun K hK => ?_) ?_
      rotate_left 1
      focus (simp only [List.getElem?_toArray, List.getElem?_cons_succ, List.getElem?_cons_zero]; exact rfl)
      · rw [if_pos (by rfl)]
        go_simp; have hg8 := hHeld.size
        refine hK.out _ _ ?_ ?_
        focus ((try dsimp only); first | exact Keeps.trans (by assumption) (by assumption) | exact nm_keeps_alloc (by assumption) _ | exact hHeld | exact nm_keeps_chg (by assumption) hc9 hg8)
        clear hK K hHeld
        intro hHeld
        try simp only [Act.put, List.setIfInBounds_toArray, List.set_cons_zero, List.set_cons_succ]
        refine wpAnyH_ready (rs := [10]) (by kernel_rfl) (by simp) ?_
        refine AllReadyH.cons (o := ?_) ?_ (fun K hK => ?_) ?_
        rotate_left 1
        focus (simp only [List.getElem?_toArray, List.getElem?_cons_succ, List.getElem?_cons_zero]; exact rfl)
        · rw [if_pos (by rfl)]
          refine cu_store_rowK 70 (.tmp 5) (.tmp 14) rfl _ 0 rfl [.int .u64 0, .int .u64 0, .int .u64 0, .int .u64 0] (R.map (Value.int .u64)) rfl (by first | exact Row.new _ _ _ rfl | exact (Row.new _ _ _ rfl).keeps hk1) (by simp [hdl]) (by rw [List.length_map, hdl]; exact sz_cnum) (int_oneCell _) ?_; intro W9 hr9 hc9
          refine hK.out _ _ ?_ ?_
          focus ((try dsimp only); first | exact Keeps.trans (by assumption) (by assumption) | exact nm_keeps_alloc (by assumption) _ | exact hHeld | exact nm_keeps_chg (by assumption) hc9 hg8)
          clear hK K hHeld
          intro hHeld
          try simp only [Act.put, List.setIfInBounds_toArray, List.set_cons_zero, List.set_cons_succ]
          refine wpAnyH_ready (rs := [11]) (by kernel_rfl) (by simp) ?_
          refine AllReadyH.cons (o := ?_) ?_ (fun K hK => ?_) ?_
          rotate_left 1
          focus (simp only [List.getElem?_toArray, List.getElem?_cons_succ, List.getElem?_cons_zero]; exact rfl)
          · rw [if_pos (by rfl)]
            go_simp
            refine hK.out _ _ ?_ ?_
            focus ((try dsimp only); first | exact Keeps.trans (by assumption) (by assumption) | exact nm_keeps_alloc (by assumption) _ | exact hHeld | exact nm_keeps_chg (by assumption) hc9 hg8)
            clear hK K hHeld
            intro hHeld
            try simp only [Act.put, List.setIfInBounds_toArray, List.set_cons_zero, List.set_cons_succ]
            refine wpAnyH_done (by kernel_rfl) ?_ _
            (go_wp2; go_meet; case rel => exact ⟨_, rfl, by assumption, by assumption, by assumption, rfl⟩)
          exact AllReadyH.nil
        exact AllReadyH.nil
      exact AllReadyH.nil
    refine AllReadyH.cons (o := ?_) ?_ (fun K hK => ?_) ?_
    rotate_left 1
    focus (simp only [List.getElem?_toArray, List.getElem?_cons_succ, List.getElem?_cons_zero]; exact rfl)
    · rw [if_pos (by rfl)]
      go_simp; have hg8 := hHeld.size
      refine hK.out _ _ ?_ ?_
      focus ((try dsimp only); first | exact Keeps.trans (by assumption) (by assumption) | exact nm_keeps_alloc (by assumption) _ | exact hHeld | exact nm_keeps_chg (by assumption) hc9 hg8)
      clear hK K hHeld
      intro hHeld
      try simp only [Act.put, List.setIfInBounds_toArray, List.set_cons_zero, List.set_cons_succ]
      refine wpAnyH_ready (rs := [5]) (by kernel_rfl) (by simp) ?_
      refine AllReadyH.cons (o := ?_) ?_ (fun K hK => ?_) ?_
      rotate_left 1
      focus (simp only [List.getElem?_toArray, List.getElem?_cons_succ, List.getElem?_cons_zero]; exact rfl)
      · rw [if_pos (by rfl)]
        go_simp; go_at_call 64; refine (HSUB.out _).mono ?_; rintro e W1 ⟨rfl, hk1⟩
        refine hK.out _ _ ?_ ?_
        focus ((try dsimp only); first | exact Keeps.trans (by assumption) (by assumption) | exact nm_keeps_alloc (by assumption) _ | exact hHeld | exact nm_keeps_chg (by assumption) hc9 hg8)
        clear hK K hHeld
        intro hHeld
        try simp only [Act.put, List.setIfInBounds_toArray, List.set_cons_zero, List.set_cons_succ]
        refine wpAnyH_take (i := 6) (oi := ?_) (v := ?_) ?_ ?_ ?_ ?_ ?_ (Or.inl ⟨?_, ?_⟩) ?_ ?_
        rotate_left 2
        focus (simp only [List.getElem?_toArray, List.getElem?_cons_succ, List.getElem?_cons_zero]; exact rfl)
        iterate 3 focus kernel_rfl
        focus (exact fun _ _ _ h => h)
        focus rfl
        focus ((intro w hSw; (try dsimp only at hSw); go_simp) <;> with_reducible rfl)
        focus assumption
        try simp only [Act.put, List.setIfInBounds_toArray, List.set_cons_zero, List.set_cons_succ]
        refine wpAnyH_take (i := 7) (oi := ?_) (v := ?_) ?_ ?_ ?_ ?_ ?_ (Or.inl ⟨?_, ?_⟩) ?_ ?_
        rotate_left 2
        focus (simp only [List.getElem?_toArray, List.getElem?_cons_succ, List.getElem?_cons_zero]; exact rfl)
        iterate 3 focus kernel_rfl
        focus (exact fun _ _ _ h => h)
        focus rfl
        focus ((intro w hSw; (try dsimp only at hSw); go_simp) <;> with_reducible rfl)
        focus assumption
        try simp only [Act.put, List.setIfInBounds_toArray, List.set_cons_zero, List.set_cons_succ]
        refine wpAnyH_take (i := 8) (oi := ?_) (v := ?_) ?_ ?_ ?_ ?_ ?_ (Or.inl ⟨?_, ?_⟩) ?_ ?_
        rotate_left 2
        focus (simp only [List.getElem?_toArray, List.getElem?_cons_succ, List.getElem?_cons_zero]; exact rfl)
        iterate 3 focus kernel_rfl
        focus (exact fun _ _ _ h => h)
        focus rfl
        focus ((intro w hSw; (try dsimp only at hSw); go_simp) <;> with_reducible rfl)
        focus assumption
        try simp only [Act.put, List.setIfInBounds_toArray, List.set_cons_zero, List.set_cons_succ]
        refine wpAnyH_ready (rs := [10]) (by kernel_rfl) (by simp) ?_
        refine AllReadyH.cons (o := ?_) ?_ (fun K hK => ?_) ?_
        rotate_left 1
        focus (simp only [List.getElem?_toArray, List.getElem?_cons_succ, List.getElem?_cons_zero]; exact rfl)
        · rw [if_pos (by rfl)]
          refine cu_store_rowK 70 (.tmp 5) (.tmp 14) rfl _ 0 rfl [.int .u64 0, .int .u64 0, .int .u64 0, .int .u64 0] (R.map (Value.int .u64)) rfl (by first | exact Row.new _ _ _ rfl | exact (Row.new _ _ _ rfl).keeps hk1) (by simp [hdl]) (by rw [List.length_map, hdl]; exact sz_cnum) (int_oneCell _) ?_; intro W9 hr9 hc9
          refine hK.out _ _ ?_ ?_
          focus ((try dsimp only); first | exact Keeps.trans (by assumption) (by assumption) | exact nm_keeps_alloc (by assumption) _ | exact hHeld | exact nm_keeps_chg (by assumption) hc9 hg8)
          clear hK K hHeld
          intro hHeld
          try simp only [Act.put, List.setIfInBounds_toArray, List.set_cons_zero, List.set_cons_succ]
          refine wpAnyH_ready (rs := [11]) (by kernel_rfl) (by simp) ?_
          refine AllReadyH.cons (o := ?_) ?_ (fun K hK => ?_) ?_
          rotate_left 1
          focus (simp only [List.getElem?_toArray, List.getElem?_cons_succ, List.getElem?_cons_zero]; exact rfl)
          · rw [if_pos (by rfl)]
            go_simp
            refine hK.out _ _ ?_ ?_
            focus ((try dsimp only); first | exact Keeps.trans (by assumption) (by assumption) | exact nm_keeps_alloc (by assumption) _ | exact hHeld | exact nm_keeps_chg (by assumption) hc9 hg8)
            clear hK K hHeld
            intro hHeld
            try simp only [Act.put, List.setIfInBounds_toArray, List.set_cons_zero, List.set_cons_succ]
            refine wpAnyH_done (by kernel_rfl) ?_ _
            (go_wp2; go_meet; case rel => exact ⟨_, rfl, by assumption, by assumption, by assumption, rfl⟩)
          exact AllReadyH.nil
        exact AllReadyH.nil
      exact AllReadyH.nil
    exact AllReadyH.nil
  case rest =>
    obtain ⟨gt, rfl, hgt, hrt, hk, rfl⟩ := hcut
    have H3 := Lib.hid hrt
    have HX := Lib.hid (HR.out.keeps hk)
    have H2 := Lib.hid (HZ.out.keeps hk)
    have HK2 := Lib.hid (HK.out.trans hk)
    clear hk hrt
    rcases HCA.out with ⟨rfl, hres⟩ | ⟨rfl, hres⟩
    · go_wp2_with (first | (refine wpList_load_at rfl 70 (.tmp 3) rfl _ 0 rfl (X.map (Value.int .u64)) _ HX.out Tryd.underlying70 rfl (by rw [List.length_map, hl]; exact sz_cnum) ?_) | (refine wpList_store_row rfl 70 (.tmp 4) (.tmp 19) rfl (p + 1) 0 rfl Z (X.map (Value.int .u64)) rfl H2.out (by rw [List.length_map, hl, hZ]) (by rw [List.length_map, hl]; exact sz_cnum) (int_oneCell _) ?_; intro w9 hr9 hc9; have H9 := Lib.hid hr9; have HC9 := Lib.hid hc9; clear hr9 hc9))
      exact bodyPost_ret (v := .agg (X.map (Value.int .u64)).toArray) (results_cell_at (p := 4) (ty := 70) rfl _ _ (p + 1) 0 _ _ rfl H9.out Tryd.underlying70 rfl (by rw [List.length_map, hl]; exact sz_cnum)) rfl ⟨by first | rfl | rw [hres], nm_keeps_chg HK2.out HC9.out (by omega)⟩
    · go_wp2_with (first | (refine wpList_load_at rfl 70 (.tmp 5) rfl _ 0 rfl (R.map (Value.int .u64)) _ H3.out Tryd.underlying70 rfl (by rw [List.length_map, hdl]; exact sz_cnum) ?_) | (refine wpList_store_row rfl 70 (.tmp 4) (.tmp 18) rfl (p + 1) 0 rfl Z (R.map (Value.int .u64)) rfl H2.out (by rw [List.length_map, hdl, hZ]) (by rw [List.length_map, hdl]; exact sz_cnum) (int_oneCell _) ?_; intro w9 hr9 hc9; have H9 := Lib.hid hr9; have HC9 := Lib.hid hc9; clear hr9 hc9))
      exact bodyPost_ret (v := .agg (R.map (Value.int .u64)).toArray) (results_cell_at (p := 4) (ty := 70) rfl _ _ (p + 1) 0 _ _ rfl H9.out Tryd.underlying70 rfl (by rw [List.length_map, hdl]; exact sz_cnum)) rfl ⟨by first | rfl | rw [hres], nm_keeps_chg HK2.out HC9.out (by omega)⟩
end Go.Proofs.YtlofddoojkeakaaDoor
