/- curve's field: what is wanting to the modulus. No condition. -/
import Derived.Test.YtajipagpdphejaaGA6
namespace Go.Proofs.Ytajipagpdphejaa
set_option linter.unusedVariables false
set_option linter.unusedSimpArgs false
open Go Go.RowKit

set_option maxRecDepth 100000 in
set_option maxHeartbeats 1000000 in
theorem neg_any (g off : Nat) (m x : Int) (hm : U256 m) (hx : U256 x) (w : World) (hr : Row w g off ((words m).map (Value.int .u64))) :
    Calls Try.prog 78 #[.pointer (some ⟨g, off, none⟩), .agg ((words x).map (Value.int .u64)).toArray] w fun e w' => e = .returned (.agg ((words (if x = 0 then 0 else m - x)).map (Value.int .u64)).toArray) ∧ Keeps w w' := by
  have HSUB := Lib.hid (csub_any m x hm hx)
  have HZE := Lib.hid (czero_any x hx)
  have hl := words_length x
  have hml := words_length m
  have hdl := words_length (m - x)
  have HROW := Lib.hid hr
  have hcase : (decide (x = 0) = true ∧ words (if x = 0 then 0 else m - x) = words x) ∨ (decide (x = 0) = false ∧ words (if x = 0 then 0 else m - x) = words (m - x)) := by
    by_cases h : x = 0
    · exact .inl ⟨decide_eq_true h, by rw [if_pos h, h]⟩
    · exact .inr ⟨decide_eq_false h, by rw [if_neg h]⟩
  clear hr
  generalize words (if x = 0 then 0 else m - x) = RES at *
  generalize words x = X at *
  generalize words m = MM at *
  generalize words (m - x) = R at *
  generalize decide (x = 0) = D at *
  generalize decide (m < x) = D2 at *
  have HCA := Lib.hid hcase
  clear hcase
  go_enter Try.func78, Try.ntmps78
  go_upto_region 1 with (fail)
  refine cu_rows2 (fun W hk hr hr2 hs => ?_)
  obtain ⟨p, hp⟩ : ∃ p, p = w.heap.size := ⟨_, rfl⟩
  rw [← hp] at hr hr2 hs ⊢
  have hkp : w.heap.size ≤ p := by omega
  obtain ⟨Z, hZ, hrz⟩ : ∃ Z : List Value, Z.length = 4 ∧ Row W (p + 1) 0 Z := ⟨_, rfl, hr2⟩
  have HR := Lib.hid (show Row W p 0 (X.map (Value.int .u64)) from hr); have HK := Lib.hid hk; have HZ := Lib.hid hrz
  have HRM := Lib.hid (HROW.out.keeps hk)
  clear hk hr hr2 hrz hp HROW
  rcases HCA.out with ⟨rfl, hres⟩ | ⟨rfl, hres⟩
  · go_wp2_with (first | (refine wpList_load_at rfl 69 (.tmp 3) rfl _ 0 rfl (X.map (Value.int .u64)) _ (by first | exact HR.out | exact HR.out.keeps HK1.out) Try.underlying69 rfl (by rw [List.length_map, hl]; exact sz_cnum) ?_) | (go_at_call 54; refine (HZE.out _).mono ?_; rintro e W1 ⟨rfl, hk1⟩; have HK1 := Lib.hid hk1; clear hk1) | (refine wpList_store_row rfl 69 (.tmp 4) (.tmp 9) rfl (p + 1) 0 rfl Z (X.map (Value.int .u64)) rfl (HZ.out.keeps HK1.out) (by rw [List.length_map, hl, hZ]) (by rw [List.length_map, hl]; exact sz_cnum) (int_oneCell _) ?_; intro w9 hr9 hc9; have H9 := Lib.hid hr9; have HC9 := Lib.hid hc9; clear hr9 hc9))
    exact bodyPost_ret (v := .agg (X.map (Value.int .u64)).toArray) (results_cell_at (p := 4) (ty := 69) rfl _ _ (p + 1) 0 _ _ rfl H9.out Try.underlying69 rfl (by rw [List.length_map, hl]; exact sz_cnum)) rfl ⟨by first | rfl | rw [hres], nm_keeps_chg (HK.out.trans HK1.out) HC9.out (by omega)⟩
  · go_wp2_with (first | (refine wpList_load_at rfl 69 (.tmp 3) rfl _ 0 rfl (X.map (Value.int .u64)) _ HR.out Try.underlying69 rfl (by rw [List.length_map, hl]; exact sz_cnum) ?_) | (go_at_call 54; refine (HZE.out _).mono ?_; rintro e W1 ⟨rfl, hk1⟩; have HK1 := Lib.hid hk1; clear hk1))
    have HX := Lib.hid (HR.out.keeps HK1.out)
    have HRM1 := Lib.hid (HRM.out.keeps HK1.out)
    have HZ1 := Lib.hid (HZ.out.keeps HK1.out)
    go_cut [5] (fun s5 wx => ∃ gt, s5 = .pointer (some ⟨gt, 0, none⟩) ∧ W1.heap.size ≤ gt ∧ Row wx gt 0 (R.map (Value.int .u64)) ∧ Keeps W1 wx)
    case first =>
      refine wp_region_held_drew (S := (fun W' => Keeps W1 W')) (by kernel_rfl) ?_ (fun hHeld => ?_)
      focus ((try dsimp only); exact keeps_drew1 (Keeps.refl _))
      generalize W1.drew = W0 at hHeld ⊢
      refine wpAnyH_take (i := 0) (oi := ?_) (v := ?_) ?_ ?_ ?_ ?_ ?_ (Or.inl ⟨?_, ?_⟩) ?_ ?_
      rotate_left 2
      focus (simp only [List.getElem?_toArray, List.getElem?_cons_succ, List.getElem?_cons_zero]; exact rfl)
      iterate 3 focus kernel_rfl
      focus (exact fun _ _ _ h => h)
      focus rfl
      focus ((intro w hSw; (try dsimp only at hSw); go_simp) <;> with_reducible rfl)
      focus assumption
      try simp only [Act.put, List.setIfInBounds_toArray, List.set_cons_zero, List.set_cons_succ]
      refine wpAnyH_take (i := 1) (oi := ?_) (v := ?_) ?_ ?_ ?_ ?_ ?_ (Or.inl ⟨?_, ?_⟩) ?_ ?_
      rotate_left 2
      focus (simp only [List.getElem?_toArray, List.getElem?_cons_succ, List.getElem?_cons_zero]; exact rfl)
      iterate 3 focus kernel_rfl
      focus (exact fun _ _ _ h => h)
      focus rfl
      focus ((intro w hSw; (try dsimp only at hSw); go_simp) <;> with_reducible rfl)
      focus assumption
      try simp only [Act.put, List.setIfInBounds_toArray, List.set_cons_zero, List.set_cons_succ]
      refine wpAnyH_take (i := 2) (oi := ?_) (v := ?_) ?_ ?_ ?_ ?_ ?_ (Or.inl ⟨?_, ?_⟩) ?_ ?_
      rotate_left 2
      focus (simp only [List.getElem?_toArray, List.getElem?_cons_succ, List.getElem?_cons_zero]; exact rfl)
      iterate 3 focus kernel_rfl
      focus (exact fun _ _ _ h => h)
      focus rfl
      focus ((intro w hSw; (try dsimp only at hSw); go_simp) <;> with_reducible rfl)
      focus assumption
      try simp only [Act.put, List.setIfInBounds_toArray, List.set_cons_zero, List.set_cons_succ]
      refine wpAnyH_take (i := 3) (oi := ?_) (v := ?_) ?_ ?_ ?_ ?_ ?_ ?_ ?_ ?_
      rotate_left 2
      focus (simp only [List.getElem?_toArray, List.getElem?_cons_succ, List.getElem?_cons_zero]; exact rfl)
      iterate 3 focus kernel_rfl
      focus (exact fun _ _ _ h => h)
      focus (refine cu_yields_row ?_ 69 (.tmp 13) ?_ g off ?_ (MM.map (Value.int .u64)) _ ?_ Try.underlying69 ?_ (by rw [List.length_map, hml]; exact sz_cnum) <;> first | rfl | exact (fun w hw => HRM1.out.keeps hw))
      focus assumption
      try simp only [Act.put, List.setIfInBounds_toArray, List.set_cons_zero, List.set_cons_succ]
      refine wpAnyH_take (i := 4) (oi := ?_) (v := ?_) ?_ ?_ ?_ ?_ ?_ ?_ ?_ ?_
      rotate_left 2
      focus (simp only [List.getElem?_toArray, List.getElem?_cons_succ, List.getElem?_cons_zero]; exact rfl)
      iterate 3 focus kernel_rfl
      focus (exact fun _ _ _ h => h)
      focus (refine cu_yields_row ?_ 69 (.tmp 3) ?_ p 0 ?_ (X.map (Value.int .u64)) _ ?_ Try.underlying69 ?_ (by rw [List.length_map, hl]; exact sz_cnum) <;> first | rfl | exact (fun w hw => HX.out.keeps hw))
      focus assumption
      try simp only [Act.put, List.setIfInBounds_toArray, List.set_cons_zero, List.set_cons_succ]
      refine wpAnyH_ready (rs := [5, 9]) (by kernel_rfl) (by simp) ?_
      refine AllReadyH.cons (o := ?_) ?_ (fun K hK => ?_) ?_
      rotate_left 1
      focus (simp only [List.getElem?_toArray, List.getElem?_cons_succ, List.getElem?_cons_zero]; exact rfl)
      · rw [if_pos (by rfl)]
        go_simp; go_at_call 68; refine (HSUB.out _).mono ?_; rintro e W2 ⟨rfl, hk1⟩
        refine hK.out _ _ ?_ ?_
        focus ((try dsimp only); first | exact Keeps.trans (by assumption) (by assumption) | exact nm_keeps_alloc (by assumption) _ | exact hHeld | exact nm_keeps_chg (by assumption) hc9 hg8)
        clear hK K hHeld
        intro hHeld
        try simp only [Act.put, List.setIfInBounds_toArray, List.set_cons_zero, List.set_cons_succ]
        refine wpAnyH_take (i := 6) (oi := ?_) (v := ?_) ?_ ?_ ?_ ?_ ?_ (Or.inl ⟨?_, ?_⟩) ?_ ?_
        rotate_left 2
        focus (simp only [List.getElem?_toArray, List.getElem?_cons_succ, List.getElem?_cons_zero]; exact rfl)
        iterate 3 focus kernel_rfl
        focus (exact fun _ _ _ h => h)
        focus rfl
        focus ((intro w hSw; (try dsimp only at hSw); go_simp) <;> with_reducible rfl)
        focus assumption
        try simp only [Act.put, List.setIfInBounds_toArray, List.set_cons_zero, List.set_cons_succ]
        refine wpAnyH_take (i := 7) (oi := ?_) (v := ?_) ?_ ?_ ?_ ?_ ?_ (Or.inl ⟨?_, ?_⟩) ?_ ?_
        rotate_left 2
        focus (simp only [List.getElem?_toArray, List.getElem?_cons_succ, List.getElem?_cons_zero]; exact rfl)
        iterate 3 focus kernel_rfl
        focus (exact fun _ _ _ h => h)
        focus rfl
        focus ((intro w hSw; (try dsimp only at hSw); go_simp) <;> with_reducible rfl)
        focus assumption
        try simp only [Act.put, List.setIfInBounds_toArray, List.set_cons_zero, List.set_cons_succ]
        refine wpAnyH_take (i := 8) (oi := ?_) (v := ?_) ?_ ?_ ?_ ?_ ?_ (Or.inl ⟨?_, ?_⟩) ?_ ?_
        rotate_left 2
        focus (simp only [List.getElem?_toArray, List.getElem?_cons_succ, List.getElem?_cons_zero]; exact rfl)
        iterate 3 focus kernel_rfl
        focus (exact fun _ _ _ h => h)
        focus rfl
        focus ((intro w hSw; (try dsimp only at hSw); go_simp) <;> with_reducible rfl)
        focus assumption
        try simp only [Act.put, List.setIfInBounds_toArray, List.set_cons_zero, List.set_cons_succ]
        refine wpAnyH_ready (rs := [9]) (by kernel_rfl) (by simp) ?_
        refine AllReadyH.cons (o := ?_) ?_ (fun K hK => ?_) ?_
        rotate_left 1
        focus (simp only [List.getElem?_toArray, List.getElem?_cons_succ, List.getElem?_cons_zero]; exact rfl)
        · rw [if_pos (by rfl)]
          go_simp; have hg8 := hHeld.size
          refine hK.out _ _ ?_ ?_
          focus ((try dsimp only); first | exact Keeps.trans (by assumption) (by assumption) | exact nm_keeps_alloc (by assumption) _ | exact hHeld | exact nm_keeps_chg (by assumption) hc9 hg8)
          clear hK K hHeld
          intro hHeld
          try simp only [Act.put, List.setIfInBounds_toArray, List.set_cons_zero, List.set_cons_succ]
          refine wpAnyH_ready (rs := [10]) (by kernel_rfl) (by simp) ?_
          refine AllReadyH.cons (o := ?_) ?_ (fun K hK => ?_) ?_
          rotate_left 1
          focus (simp only [List.getElem?_toArray, List.getElem?_cons_succ, List.getElem?_cons_zero]; exact rfl)
          · rw [if_pos (by rfl)]
            refine cu_store_rowK 69 (.tmp 5) (.tmp 17) rfl _ 0 rfl [.int .u64 0, .int .u64 0, .int .u64 0, .int .u64 0] (R.map (Value.int .u64)) rfl (by first | exact Row.new _ _ _ rfl | exact (Row.new _ _ _ rfl).keeps hk1) (by simp [hdl]) (by rw [List.length_map, hdl]; exact sz_cnum) (int_oneCell _) ?_; intro W9 hr9 hc9
            refine hK.out _ _ ?_ ?_
            focus ((try dsimp only); first | exact Keeps.trans (by assumption) (by assumption) | exact nm_keeps_alloc (by assumption) _ | exact hHeld | exact nm_keeps_chg (by assumption) hc9 hg8)
            clear hK K hHeld
            intro hHeld
            try simp only [Act.put, List.setIfInBounds_toArray, List.set_cons_zero, List.set_cons_succ]
            refine wpAnyH_ready (rs := [11]) (by kernel_rfl) (by simp) ?_
            refine AllReadyH.cons (o := ?_) ?_ (fun K hK => ?_) ?_
            rotate_left 1
            focus (simp only [List.getElem?_toArray, List.getElem?_cons_succ, List.getElem?_cons_zero]; exact rfl)
            · rw [if_pos (by rfl)]
              go_simp
              refine hK.out _ _ ?_ ?_
              focus ((try dsimp only); first | exact Keeps.trans (by assumption) (by assumption) | exact nm_keeps_alloc (by assumption) _ | exact hHeld | exact nm_keeps_chg (by assumption) hc9 hg8)
              clear hK K hHeld
              intro hHeld
              try simp only [Act.put, List.setIfInBounds_toArray, List.set_cons_zero, List.set_cons_succ]
              refine wpAnyH_done (by kernel_rfl) ?_ _
              (go_wp2; go_meet; case rel => exact ⟨_, rfl, by assumption, by assumption, by assumption⟩)
            exact AllReadyH.nil
          exact AllReadyH.nil
        exact AllReadyH.nil
      refine AllReadyH.cons (o := ?_) ?_ (fun K hK => ?_) ?_
      rotate_left 1
      focus (simp only [List.getElem?_toArray, List.getElem?_cons_succ, List.getElem?_cons_zero]; exact rfl)
      · rw [if_pos (by rfl)]
        go_simp; have hg8 := hHeld.size
        refine hK.out _ _ ?_ ?_
        focus ((try dsimp only); first | exact Keeps.trans (by assumption) (by assumption) | exact nm_keeps_alloc (by assumption) _ | exact hHeld | exact nm_keeps_chg (by assumption) hc9 hg8)
        clear hK K hHeld
        intro hHeld
        try simp only [Act.put, List.setIfInBounds_toArray, List.set_cons_zero, List.set_cons_succ]
        refine wpAnyH_ready (rs := [5]) (by kernel_rfl) (by simp) ?_
        refine AllReadyH.cons (o := ?_) ?_ (fun K hK => ?_) ?_
        rotate_left 1
        focus (simp only [List.getElem?_toArray, List.getElem?_cons_succ, List.getElem?_cons_zero]; exact rfl)
        · rw [if_pos (by rfl)]
          go_simp; go_at_call 68; refine (HSUB.out _).mono ?_; rintro e W2 ⟨rfl, hk1⟩
          refine hK.out _ _ ?_ ?_
          focus ((try dsimp only); first | exact Keeps.trans (by assumption) (by assumption) | exact nm_keeps_alloc (by assumption) _ | exact hHeld | exact nm_keeps_chg (by assumption) hc9 hg8)
          clear hK K hHeld
          intro hHeld
          try simp only [Act.put, List.setIfInBounds_toArray, List.set_cons_zero, List.set_cons_succ]
          refine wpAnyH_take (i := 6) (oi := ?_) (v := ?_) ?_ ?_ ?_ ?_ ?_ (Or.inl ⟨?_, ?_⟩) ?_ ?_
          rotate_left 2
          focus (simp only [List.getElem?_toArray, List.getElem?_cons_succ, List.getElem?_cons_zero]; exact rfl)
          iterate 3 focus kernel_rfl
          focus (exact fun _ _ _ h => h)
          focus rfl
          focus ((intro w hSw; (try dsimp only at hSw); go_simp) <;> with_reducible rfl)
          focus assumption
          try simp only [Act.put, List.setIfInBounds_toArray, List.set_cons_zero, List.set_cons_succ]
          refine wpAnyH_take (i := 7) (oi := ?_) (v := ?_) ?_ ?_ ?_ ?_ ?_ (Or.inl ⟨?_, ?_⟩) ?_ ?_
          rotate_left 2
          focus (simp only [List.getElem?_toArray, List.getElem?_cons_succ, List.getElem?_cons_zero]; exact rfl)
          iterate 3 focus kernel_rfl
          focus (exact fun _ _ _ h => h)
          focus rfl
          focus ((intro w hSw; (try dsimp only at hSw); go_simp) <;> with_reducible rfl)
          focus assumption
          try simp only [Act.put, List.setIfInBounds_toArray, List.set_cons_zero, List.set_cons_succ]
          refine wpAnyH_take (i := 8) (oi := ?_) (v := ?_) ?_ ?_ ?_ ?_ ?_ (Or.inl ⟨?_, ?_⟩) ?_ ?_
          rotate_left 2
          focus (simp only [List.getElem?_toArray, List.getElem?_cons_succ, List.getElem?_cons_zero]; exact rfl)
          iterate 3 focus kernel_rfl
          focus (exact fun _ _ _ h => h)
          focus rfl
          focus ((intro w hSw; (try dsimp only at hSw); go_simp) <;> with_reducible rfl)
          focus assumption
          try simp only [Act.put, List.setIfInBounds_toArray, List.set_cons_zero, List.set_cons_succ]
          refine wpAnyH_ready (rs := [10]) (by kernel_rfl) (by simp) ?_
          refine AllReadyH.cons (o := ?_) ?_ (fun K hK => ?_) ?_
          rotate_left 1
          focus (simp only [List.getElem?_toArray, List.getElem?_cons_succ, List.getElem?_cons_zero]; exact rfl)
          · rw [if_pos (by rfl)]
            refine cu_store_rowK 69 (.tmp 5) (.tmp 17) rfl _ 0 rfl [.int .u64 0, .int .u64 0, .int .u64 0, .int .u64 0] (R.map (Value.int .u64)) rfl (by first | exact Row.new _ _ _ rfl | exact (Row.new _ _ _ rfl).keeps hk1) (by simp [hdl]) (by rw [List.length_map, hdl]; exact sz_cnum) (int_oneCell _) ?_; intro W9 hr9 hc9
            refine hK.out _ _ ?_ ?_
            focus ((try dsimp only); first | exact Keeps.trans (by assumption) (by assumption) | exact nm_keeps_alloc (by assumption) _ | exact hHeld | exact nm_keeps_chg (by assumption) hc9 hg8)
            clear hK K hHeld
            intro hHeld
            try simp only [Act.put, List.setIfInBounds_toArray, List.set_cons_zero, List.set_cons_succ]
            refine wpAnyH_ready (rs := [11]) (by kernel_rfl) (by simp) ?_
            refine AllReadyH.cons (o := ?_) ?_ (fun K hK => ?_) ?_
            rotate_left 1
            focus (simp only [List.getElem?_toArray, List.getElem?_cons_succ, List.getElem?_cons_zero]; exact rfl)
            · rw [if_pos (by rfl)]
              go_simp
              refine hK.out _ _ ?_ ?_
              focus ((try dsimp only); first | exact Keeps.trans (by assumption) (by assumption) | exact nm_keeps_alloc (by assumption) _ | exact hHeld | exact nm_keeps_chg (by assumption) hc9 hg8)
              clear hK K hHeld
              intro hHeld
              try simp only [Act.put, List.setIfInBounds_toArray, List.set_cons_zero, List.set_cons_succ]
              refine wpAnyH_done (by kernel_rfl) ?_ _
              (go_wp2; go_meet; case rel => exact ⟨_, rfl, by assumption, by assumption, by assumption⟩)
            exact AllReadyH.nil
          exact AllReadyH.nil
        exact AllReadyH.nil
      exact AllReadyH.nil
    case rest =>
      obtain ⟨gt, rfl, hgt, hrt, hk⟩ := hcut
      have H3 := Lib.hid hrt
      have H2 := Lib.hid (HZ1.out.keeps hk)
      have HK2 := Lib.hid ((HK.out.trans HK1.out).trans hk)
      clear hk hrt
      go_wp2_with (first | (refine wpList_load_at rfl 69 (.tmp 5) rfl _ 0 rfl (R.map (Value.int .u64)) _ H3.out Try.underlying69 rfl (by rw [List.length_map, hdl]; exact sz_cnum) ?_) | (refine wpList_store_row rfl 69 (.tmp 4) (.tmp 19) rfl (p + 1) 0 rfl Z (R.map (Value.int .u64)) rfl H2.out (by rw [List.length_map, hdl, hZ]) (by rw [List.length_map, hdl]; exact sz_cnum) (int_oneCell _) ?_; intro w9 hr9 hc9; have H9 := Lib.hid hr9; have HC9 := Lib.hid hc9; clear hr9 hc9))
      exact bodyPost_ret (v := .agg (R.map (Value.int .u64)).toArray) (results_cell_at (p := 4) (ty := 69) rfl _ _ (p + 1) 0 _ _ rfl H9.out Try.underlying69 rfl (by rw [List.length_map, hdl]; exact sz_cnum)) rfl ⟨by first | rfl | rw [hres], nm_keeps_chg HK2.out HC9.out (by omega)⟩
end Go.Proofs.Ytajipagpdphejaa
