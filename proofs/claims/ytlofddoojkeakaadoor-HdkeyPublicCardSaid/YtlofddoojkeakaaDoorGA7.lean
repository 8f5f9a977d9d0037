/- curve's field: what is wanting to the modulus. No condition. | curve's field: a sum below the modulus. No condition. -/
import Derived.Test.YtlofddoojkeakaaDoorGA6
namespace Go.Proofs.YtlofddoojkeakaaDoor
set_option linter.unusedVariables false
set_option linter.unusedSimpArgs false
open Go Go.RowKit

set_option maxRecDepth 100000 in
set_option maxHeartbeats 1000000 in
theorem neg_any (g off : Nat) (m x : Int) (hm : U256 m) (hx : U256 x) (w : World) (hr : Row w g off ((words m).map (Value.int .u64))) :
    Calls Tryd.prog 80 #[.pointer (some ⟨g, off, none⟩), .agg ((words x).map (Value.int .u64)).toArray] w fun e w' => e = .returned (.agg ((words (if x = 0 then 0 else m - x)).map (Value.int .u64)).toArray) ∧ Keeps w w' := by
  have HSUB := Lib.hid (csub_any m x hm hx)
  have HZE := Lib.hid (czero_any x hx)
  have hl := words_length x
  have hml := words_length m
  have hdl := words_length (m - x)
  have HROW := Lib.hid hr
  have hcase : (decide (x = 0) = true ∧ words (if x = 0 then 0 else m - x) = words x) ∨ (decide (x = 0) = false ∧ words (if x = 0 then 0 else m - x) = words (m - x)) := by
    by_cases h : x = 0
    · exact .inl ⟨decide_eq_true h, by rw [if_pos h, h]⟩
    · exact .inr ⟨decide_eq_false h, by rw [if_neg h]⟩
  clear hr
  generalize words (if x = 0 then 0 else m - x) = RES at *
  generalize words x = X at *
  generalize words m = MM at *
  generalize words (m - x) = R at *
  generalize decide (x = 0) = D at *
  generalize decide (m < x) = D2 at *
  have HCA := Lib.hid hcase
  clear hcase
  go_enter Tryd.func80, Tryd.ntmps80
  go_upto_region 1 with (fail)
  refine cu_rows2 (fun W hk hr hr2 hs => ?_)
  obtain ⟨p, hp⟩ : ∃ p, p = w.heap.size := ⟨_, rfl⟩
  rw [← hp] at hr hr2 hs ⊢
  have hkp : w.heap.size ≤ p := by omega
  obtain ⟨Z, hZ, hrz⟩ : ∃ Z : List Value, Z.length = 4 ∧ Row W (p + 1) 0 Z := ⟨_, rfl, hr2⟩
  have HR := Lib.hid (show Row W p 0 (X.map (Value.int .u64)) from hr); have HK := Lib.hid hk; have HZ := Lib.hid hrz
  have HRM := Lib.hid (HROW.out.keeps hk)
  clear hk hr hr2 hrz hp HROW
  rcases HCA.out with ⟨rfl, hres⟩ | ⟨rfl, hres⟩
  · go_wp2_with (first | (refine wpList_load_at rfl 70 (.tmp 3) rfl _ 0 rfl (X.map (Value.int .u64)) _ (by first | exact HR.out | exact HR.out.keeps HK1.out) Tryd.underlying70 rfl (by rw [List.length_map, hl]; exact sz_cnum) ?_) | (go_at_call 38; refine (HZE.out _).mono ?_; rintro e W1 ⟨rfl, hk1⟩; have HK1 := Lib.hid hk1; clear hk1) | (refine wpList_store_row rfl 70 (.tmp 4) (.tmp 9) rfl (p + 1) 0 rfl Z (X.map (Value.int .u64)) rfl (HZ.out.keeps HK1.out) (by rw [List.length_map, hl, hZ]) (by rw [List.length_map, hl]; exact sz_cnum) (int_oneCell _) ?_; intro w9 hr9 hc9; have H9 := Lib.hid hr9; have HC9 := Lib.hid hc9; clear hr9 hc9))
    exact bodyPost_ret (v := .agg (X.map (Value.int .u64)).toArray) (results_cell_at (p := 4) (ty := 70) rfl _ _ (p + 1) 0 _ _ rfl H9.out Tryd.underlying70 rfl (by rw [List.length_map, hl]; exact sz_cnum)) rfl ⟨by first | rfl | rw [hres], nm_keeps_chg (HK.out.trans HK1.out) HC9.out (by omega)⟩
  · go_wp2_with (first | (refine wpList_load_at rfl 70 (.tmp 3) rfl _ 0 rfl (X.map (Value.int .u64)) _ HR.out Tryd.underlying70 rfl (by rw [List.length_map, hl]; exact sz_cnum) ?_) | (go_at_call 38; refine (HZE.out _).mono ?_; rintro e W1 ⟨rfl, hk1⟩; have HK1 := Lib.hid hk1; clear hk1))
    have HX := Lib.hid (HR.out.keeps HK1.out)
    have HRM1 := Lib.hid (HRM.out.keeps HK1.out)
    have HZ1 := Lib.hid (HZ.out.keeps HK1.out)
    go_cut [5] (fun s5 wx => ∃ gt, s5 = .pointer (some ⟨gt, 0, none⟩) ∧ W1.heap.size ≤ gt ∧ Row wx gt 0 (R.map (Value.int .u64)) ∧ Keeps W1 wx)
    case first =>
      refine wp_region_held_drew (S := (fun W' => Keeps W1 W')) (by kernel_rfl) ?_ (fun hHeld => ?_)
      focus ((try dsimp only); exact keeps_drew1 (Keeps.refl _))
      generalize W1.drew = W0 at hHeld ⊢
      refine wpAnyH_take (i := 0) (oi := ?_) (v := ?_) ?_ ?_ ?_ ?_ ?_ (Or.inl ⟨?_, ?_⟩) ?_ ?_
      rotate_left 2
      focus (simp only [List.getElem?_toArray, List.getElem?_cons_succ, List.getElem?_cons_zero]; exact rfl)
      iterate 3 focus kernel_rfl
      focus (exact fun _ _ _ h => h)
      focus rfl
      focus ((intro w hSw; (try dsimp only at hSw); go_simp) <;> with_reducible rfl)
      focus assumption
      try simp only [Act.put, List.setIfInBounds_toArray, List.set_cons_zero, List.set_cons_succ]
      refine wpAnyH_take (i := 1) (oi := ?_) (v := ?_) ?_ ?_ ?_ ?_ ?_ (Or.inl ⟨?_, ?_⟩) ?_ ?_
      rotate_left 2
      focus (simp only [List.getElem?_toArray, List.getElem?_cons_succ, List.getElem?_cons_zero]; exact rfl)
      iterate 3 focus kernel_rfl
      focus (exact fun _ _ _ h => h)
      focus rfl
      focus ((intro w hSw; (try dsimp only at hSw); go_simp) <;> with_reducible rfl)
      focus assumption
      try simp only [Act.put, List.setIfInBounds_toArray, List.set_cons_zero, List.set_cons_succ]
      refine wpAnyH_take (i := 2) (oi := ?_) (v := ?_) ?_ ?_ ?_ ?_ ?_ (Or.inl ⟨?_, ?_⟩) ?_ ?_
      rotate_left 2
      focus (simp only [List.getElem?_toArray, List.getElem?_cons_succ, List.getElem?_cons_zero]; exact rfl)
      iterate 3 focus kernel_rfl
      focus (exact fun _ _ _ h => h)
      focus rfl
      focus ((intro w hSw; (try dsimp only at hSw); go_simp) <;> with_reducible rfl)
      focus assumption
      try simp only [Act.put, List.setIfInBounds_toArray, List.set_cons_zero, List.set_cons_succ]
      refine wpAnyH_take (i := 3) (oi := ?_) (v := ?_) ?_ ?_ ?_ ?_ ?_ ?_ ?_ ?_
      rotate_left 2
      focus (simp only [List.getElem?_toArray, List.getElem?_cons_succ, List.getElem?_cons_zero]; exact rfl)
      iterate 3 focus kernel_rfl
      focus (exact fun _ _ _ h => h)
      focus (refine cu_yields_row ?_ 70 (.tmp 13) ?_ g off ?_ (MM.map (Value.int .u64)) _ ?_ Tryd.underlying70 ?_ (by rw [List.length_map, hml]; exact sz_cnum) <;> first | rfl | exact (fun w hw => HRM1.out.keeps hw))
      focus assumption
      try simp only [Act.put, List.setIfInBounds_toArray, List.set_cons_zero, List.set_cons_succ]
      refine wpAnyH_take (i := 4) (oi := ?_) (v := ?_) ?_ ?_ ?_ ?_ ?_ ?_ ?_ ?_
      rotate_left 2
      focus (simp only [List.getElem?_toArray, List.getElem?_cons_succ, List.getElem?_cons_zero]; exact rfl)
      iterate 3 focus kernel_rfl
      focus (exact fun _ _ _ h => h)
      focus (refine cu_yields_row ?_ 70 (.tmp 3) ?_ p 0 ?_ (X.map (Value.int .u64)) _ ?_ Tryd.underlying70 ?_ (by rw [List.length_map, hl]; exact sz_cnum) <;> first | rfl | exact (fun w hw => HX.out.keeps hw))
      focus assumption
      try simp only [Act.put, List.setIfInBounds_toArray, List.set_cons_zero, List.set_cons_succ]
      refine wpAnyH_ready (rs := [5, 9]) (by kernel_rfl) (by simp) ?_
      refine AllReadyH.cons (o := ?_) ?_ (fun K hK => ?_) ?_
      rotate_left 1
      focus (simp only [List.getElem?_toArray, List.getElem?_cons_succ, List.getElem?_cons_zero]; exact rfl)
      · rw [if_pos (by rfl)]
        go_simp; go_at_call 64; refine (HSUB.out _).mono ?_; rintro e W2 ⟨rfl, hk1⟩
        refine hK.out _ _ ?_ ?_
        focus ((try dsimp only); first | exact Keeps.trans (by assumption) (by assumption) | exact nm_keeps_alloc (by assumption) _ | exact hHeld | exact nm_keeps_chg (by assumption) hc9 hg8)
        clear hK K hHeld
        intro hHeld
        try simp only [Act.put, List.setIfInBounds_toArray, List.set_cons_zero, List.set_cons_succ]
        refine wpAnyH_take (i := 6) (oi := ?_) (v := ?_) ?_ ?_ ?_ ?_ ?_ (Or.inl ⟨?_, ?_⟩) ?_ ?_
        rotate_left 2
        focus (simp only [List.getElem?_toArray, List.getElem?_cons_succ, List.getElem?_cons_zero]; exact rfl)
        iterate 3 focus kernel_rfl
        focus (exact fun _ _ _ h => h)
        focus rfl
        focus ((intro w hSw; (try dsimp only at hSw); go_simp) <;> with_reducible rfl)
        focus assumption
        try simp only [Act.put, List.setIfInBounds_toArray, List.set_cons_zero, List.set_cons_succ]
        refine wpAnyH_take (i := 7) (oi := ?_) (v := ?_) ?_ ?_ ?_ ?_ ?_ (Or.inl ⟨?_, ?_⟩) ?_ ?_
        rotate_left 2
        focus (simp only [List.getElem?_toArray, List.getElem?_cons_succ, List.getElem?_cons_zero]; exact rfl)
        iterate 3 focus kernel_rfl
        focus (exact fun _ _ _ h => h)
        focus rfl
        focus ((intro w hSw; (try dsimp only at hSw); go_simp) <;> with_reducible rfl)
        focus assumption
        try simp only [Act.put, List.setIfInBounds_toArray, List.set_cons_zero, List.set_cons_succ]
        refine wpAnyH_take (i := 8) (oi := ?_) (v := ?_) ?_ ?_ ?_ ?_ ?_ (Or.inl ⟨?_, ?_⟩) ?_ ?_
        rotate_left 2
        focus (simp only [List.getElem?_toArray, List.getElem?_cons_succ, List.getElem?_cons_zero]; exact rfl)
        iterate 3 focus kernel_rfl
        focus (exact fun _ _ _ h => h)
        focus rfl
        focus ((intro w hSw; (try dsimp only at hSw); go_simp) <;> with_reducible rfl)
        focus assumption
        try simp only [Act.put, List.setIfInBounds_toArray, List.set_cons_zero, List.set_cons_succ]
        refine wpAnyH_ready (rs := [9]) (by kernel_rfl) (by simp) ?_
        refine AllReadyH.cons (o := ?_) ?_ (fun K hK => ?_) ?_
        rotate_left 1
        focus (simp only [List.getElem?_toArray, List.getElem?_cons_succ, List.getElem?_cons_zero]; exact rfl)
        · rw [if_pos (by rfl)]
          go_simp; have hg8 := hHeld.size
          refine hK.out _ _ ?_ ?_
          focus ((try dsimp only); first | exact Keeps.trans (by assumption) (by assumption) | exact nm_keeps_alloc (by assumption) _ | exact hHeld | exact nm_keeps_chg (by assumption) hc9 hg8)
          clear hK K hHeld
          intro hHeld
          try simp only [Act.put, List.setIfInBounds_toArray, List.set_cons_zero, List.set_cons_succ]
          refine wpAnyH_ready (rs := [10]) (by kernel_rfl) (by simp) ?_
          refine AllReadyH.cons (o := ?_) ?_ (fun K hK => ?_) ?_
          rotate_left 1
          focus (simp only [List.getElem?_toArray, List.getElem?_cons_succ, List.getElem?_cons_zero]; exact rfl)
          · rw [if_pos (by rfl)]
            refine cu_store_rowK 70 (.tmp 5) (.tmp 17) rfl _ 0 rfl [.int .u64 0, .int .u64 0, .int .u64 0, .int .u64 0] (R.map (Value.int .u64)) rfl (by first | exact Row.new _ _ _ rfl | exact (Row.new _ _ _ rfl).keeps hk1) (by simp [hdl]) (by rw [List.length_map, hdl]; exact sz_cnum) (int_oneCell _) ?_; intro W9 hr9 hc9
            refine hK.out _ _ ?_ ?_
            focus ((try dsimp only); first | exact Keeps.trans (by assumption) (by assumption) | exact nm_keeps_alloc (by assumption) _ | exact hHeld | exact nm_keeps_chg (by assumption) hc9 hg8)
            clear hK K hHeld
            intro hHeld
            try simp only [Act.put, List.setIfInBounds_toArray, List.set_cons_zero, List.set_cons_succ]
            refine wpAnyH_ready (rs := [11]) (by kernel_rfl) (by simp) ?_
            refine AllReadyH.cons (o := ?_) ?_ (fun K hK => ?_) ?_
            rotate_left 1
            focus (simp only [List.getElem?_toArray, List.getElem?_cons_succ, List.getElem?_cons_zero]; exact rfl)
            · rw [if_pos (by rfl)]
              go_simp
              refine hK.out _ _ ?_ ?_
              focus ((try dsimp only); first | exact Keeps.trans (by assumption) (by assumption) | exact nm_keeps_alloc (by assumption) _ | exact hHeld | exact nm_keeps_chg (by assumption) hc9 hg8)
              clear hK K hHeld
              intro hHeld
              try simp only [Act.put, List.setIfInBounds_toArray, List.set_cons_zero, List.set_cons_succ]
              refine wpAnyH_done (by kernel_rfl) ?_ _
              (go_wp2; go_meet; case rel => exact ⟨_, rfl, by assumption, by assumption, by assumption⟩)
            exact AllReadyH.nil
          exact AllReadyH.nil
        exact AllReadyH.nil
      refine AllReadyH.cons (o := ?_) ?_ (fun K hK => ?_) ?_
      rotate_left 1
      focus (simp only [List.getElem?_toArray, List.getElem?_cons_succ, List.getElem?_cons_zero]; exact rfl)
      · rw [if_pos (by rfl)]
        go_simp; have hg8 := hHeld.size
        refine hK.out _ _ ?_ ?_
        focus ((try dsimp only); first | exact Keeps.trans (by assumption) (by assumption) | exact nm_keeps_alloc (by assumption) _ | exact hHeld | exact nm_keeps_chg (by assumption) hc9 hg8)
        clear hK K hHeld
        intro hHeld
        try simp only [Act.put, List.setIfInBounds_toArray, List.set_cons_zero, List.set_cons_succ]
        refine wpAnyH_ready (rs := [5]) (by kernel_rfl) (by simp) ?_
        refine AllReadyH.cons (o := ?_) ?_ (fun K hK => ?_) ?_
        rotate_left 1
        focus (simp only [List.getElem?_toArray, List.getElem?_cons_succ, List.getElem?_cons_zero]; exact rfl)
        · rw [if_pos (by rfl)]
          go_simp; go_at_call 64; refine (HSUB.out _).mono ?_; rintro e W2 ⟨rfl, hk1⟩
          refine hK.out _ _ ?_ ?_
          focus ((try dsimp only); first | exact Keeps.trans (by assumption) (by assumption) | exact nm_keeps_alloc (by assumption) _ | exact hHeld | exact nm_keeps_chg (by assumption) hc9 hg8)
          clear hK K hHeld
          intro hHeld
          try simp only [Act.put, List.setIfInBounds_toArray, List.set_cons_zero, List.set_cons_succ]
          refine wpAnyH_take (i := 6) (oi := ?_) (v := ?_) ?_ ?_ ?_ ?_ ?_ (Or.inl ⟨?_, ?_⟩) ?_ ?_
          rotate_left 2
          focus (simp only [List.getElem?_toArray, List.getElem?_cons_succ, List.getElem?_cons_zero]; exact rfl)
          iterate 3 focus kernel_rfl
          focus (exact fun _ _ _ h => h)
          focus rfl
          focus ((intro w hSw; (try dsimp only at hSw); go_simp) <;> with_reducible rfl)
          focus assumption
          try simp only [Act.put, List.setIfInBounds_toArray, List.set_cons_zero, List.set_cons_succ]
          refine wpAnyH_take (i := 7) (oi := ?_) (v := ?_) ?_ ?_ ?_ ?_ ?_ (Or.inl ⟨?_, ?_⟩) ?_ ?_
          rotate_left 2
          focus (simp only [List.getElem?_toArray, List.getElem?_cons_succ, List.getElem?_cons_zero]; exact rfl)
          iterate 3 focus kernel_rfl
          focus (exact fun _ _ _ h => h)
          focus rfl
          focus ((intro w hSw; (try dsimp only at hSw); go_simp) <;> with_reducible rfl)
          focus assumption
          try simp only [Act.put, List.setIfInBounds_toArray, List.set_cons_zero, List.set_cons_succ]
          refine wpAnyH_take (i := 8) (oi := ?_) (v := ?_) ?_ ?_ ?_ ?_ ?_ (Or.inl ⟨?_, ?_⟩) ?_ ?_
          rotate_left 2
          focus (simp only [List.getElem?_toArray, List.getElem?_cons_succ, List.getElem?_cons_zero]; exact rfl)
          iterate 3 focus kernel_rfl
          focus (exact fun _ _ _ h => h)
          focus rfl
          focus ((intro w hSw; (try dsimp only at hSw); go_simp) <;> with_reducible rfl)
          focus assumption
          try simp only [Act.put, List.setIfInBounds_toArray, List.set_cons_zero, List.set_cons_succ]
          refine wpAnyH_ready (rs := [10]) (by kernel_rfl) (by simp) ?_
          refine AllReadyH.cons (o := ?_) ?_ (fun K hK => ?_) ?_
          rotate_left 1
          focus (simp only [List.getElem?_toArray, List.getElem?_cons_succ, List.getElem?_cons_zero]; exact rfl)
          · rw [if_pos (by rfl)]
            refine cu_store_rowK 70 (.tmp 5) (.tmp 17) rfl _ 0 rfl [.int .u64 0, .int .u64 0, .int .u64 0, .int .u64 0] (R.map (Value.int .u64)) rfl (by first | exact Row.new _ _ _ rfl | exact (Row.new _ _ _ rfl).keeps hk1) (by simp [hdl]) (by rw [List.length_map, hdl]; exact sz_cnum) (int_oneCell _) ?_; intro W9 hr9 hc9
            refine hK.out _ _ ?_ ?_
            focus ((try dsimp only); first | exact Keeps.trans (by assumption) (by assumption) | exact nm_keeps_alloc (by assumption) _ | exact hHeld | exact nm_keeps_chg (by assumption) hc9 hg8)
            clear hK K hHeld
            intro hHeld
            try simp only [Act.put, List.setIfInBounds_toArray, List.set_cons_zero, List.set_cons_succ]
            refine wpAnyH_ready (rs := [11]) (by kernel_rfl) (by simp) ?_
            refine AllReadyH.cons (o := ?_) ?_ (fun K hK => ?_) ?_
            rotate_left 1
            focus (simp only [List.getElem?_toArray, List.getElem?_cons_succ, List.getElem?_cons_zero]; exact rfl)
            · rw [if_pos (by rfl)]
              go_simp
              refine hK.out _ _ ?_ ?_
              focus ((try dsimp only); first | exact Keeps.trans (by assumption) (by assumption) | exact nm_keeps_alloc (by assumption) _ | exact hHeld | exact nm_keeps_chg (by assumption) hc9 hg8)
              clear hK K hHeld
              intro hHeld
              try simp only [Act.put, List.setIfInBounds_toArray, List.set_cons_zero, List.set_cons_succ]
              refine wpAnyH_done (by kernel_rfl) ?_ _
              (go_wp2; go_meet; case rel => exact ⟨_, rfl, by assumption, by assumption, by assumption⟩)
            exact AllReadyH.nil
          exact AllReadyH.nil
        exact AllReadyH.nil
      exact AllReadyH.nil
    case rest =>
      obtain ⟨gt, rfl, hgt, hrt, hk⟩ := hcut
      have H3 := Lib.hid hrt
      have H2 := Lib.hid (HZ1.out.keeps hk)
      have HK2 := Lib.hid ((HK.out.trans HK1.out).trans hk)
      clear hk hrt
      go_wp2_with (first | (refine wpList_load_at rfl 70 (.tmp 5) rfl _ 0 rfl (R.map (Value.int .u64)) _ H3.out Tryd.underlying70 rfl (by rw [List.length_map, hdl]; exact sz_cnum) ?_) | (refine wpList_store_row rfl 70 (.tmp 4) (.tmp 19) rfl (p + 1) 0 rfl Z (R.map (Value.int .u64)) rfl H2.out (by rw [List.length_map, hdl, hZ]) (by rw [List.length_map, hdl]; exact sz_cnum) (int_oneCell _) ?_; intro w9 hr9 hc9; have H9 := Lib.hid hr9; have HC9 := Lib.hid hc9; clear hr9 hc9))
      exact bodyPost_ret (v := .agg (R.map (Value.int .u64)).toArray) (results_cell_at (p := 4) (ty := 70) rfl _ _ (p + 1) 0 _ _ rfl H9.out Tryd.underlying70 rfl (by rw [List.length_map, hdl]; exact sz_cnum)) rfl ⟨by first | rfl | rw [hres], nm_keeps_chg HK2.out HC9.out (by omega)⟩
theorem cu_load_do {P : Program} {w : World} {o : Oper} {a : Act} {K : Act → World → Prop} {Q : Exit → Act → World → Prop} (ty : TypeId) (x : Operand) (ho : o.op = .load ty x) (g off : Nat) (hx : a.eval x = .pointer (some ⟨g, off, none⟩)) (cs : List Value) (d : TypeDesc) (hg : Row w g off cs)
    (hu : P.underlying ty = some d) (hd : (match d with | .struct _ | .array _ _ => true | _ => false) = true) (hi : (P.info? ty).map (·.size) = some cs.length)
    (h : K (a.put o.dst (.agg cs.toArray)) w) : o.wp P a w K Q := by
  unfold Oper.wp
  rw [cu_run_load ty x ho g off hx cs d hg hu hd hi]
  exact h
theorem words_mod (v : Int) : words (v % 115792089237316195423570985008687907853269984665640564039457584007913129639936) = words v := by
  have h0 : v % 115792089237316195423570985008687907853269984665640564039457584007913129639936 % 18446744073709551616 = v % 18446744073709551616 := by omega
  have h1 : v % 115792089237316195423570985008687907853269984665640564039457584007913129639936 / 18446744073709551616 % 18446744073709551616 = v / 18446744073709551616 % 18446744073709551616 := by omega
  have h2 : v % 115792089237316195423570985008687907853269984665640564039457584007913129639936 / 340282366920938463463374607431768211456 % 18446744073709551616 = v / 340282366920938463463374607431768211456 % 18446744073709551616 := by omega
  have h3 : v % 115792089237316195423570985008687907853269984665640564039457584007913129639936 / 6277101735386680763835789423207666416102355444464034512896 % 18446744073709551616 = v / 6277101735386680763835789423207666416102355444464034512896 % 18446744073709551616 := by omega
  unfold words
  rw [h0, h1, h2, h3]
theorem words_of_mod {u v : Int} (h : u % 115792089237316195423570985008687907853269984665640564039457584007913129639936 = v % 115792089237316195423570985008687907853269984665640564039457584007913129639936) : words u = words v := by
  rw [← words_mod u, h, words_mod v]
set_option maxRecDepth 100000 in
set_option maxHeartbeats 1000000 in
theorem add_any (g off : Nat) (m x y : Int) (hm : U256 m) (hx : 0 ≤ x ∧ x < m) (hy : 0 ≤ y ∧ y < m) (w : World) (hr : Row w g off ((words m).map (Value.int .u64))) :
    Calls Tryd.prog 37 #[.pointer (some ⟨g, off, none⟩), .agg ((words x).map (Value.int .u64)).toArray, .agg ((words y).map (Value.int .u64)).toArray] w fun e w' => e = .returned (.agg ((words ((x + y) % m)).map (Value.int .u64)).toArray) ∧ Keeps w w' := by
  have hm2 := hm.2
  have hc4 := wcarry_four hx.1 (Int.lt_trans hx.2 hm2) hy.1 (Int.lt_trans hy.2 hm2)
  have HPL := Lib.hid (cplus_any x y)
  have hl := words_length x
  have hyl := words_length y
  have hml := words_length m
  have hsl := words_length (x + y)
  have hrl := words_length ((x + y) % m)
  have HROW := Lib.hid hr
  by_cases hN : x + y < 115792089237316195423570985008687907853269984665640564039457584007913129639936
  · have hc : wcarry x y 4 = 0 := by rw [hc4]; omega
    rw [hc] at HPL
    have HIN := Lib.hid (fun W hW => in_any g off m (x + y) hm ⟨by omega, hN⟩ W hW)
    have he : (if x + y < m then x + y else x + y - m) = (x + y) % m := by
      split
      · rw [Int.emod_eq_of_lt (by omega) (by omega)]
      · rw [show x + y = (x + y - m) + m by omega, Int.add_emod_right, Int.emod_eq_of_lt (by omega) (by omega)]; omega
    rw [he] at HIN
    clear he hc hc4 hr hN
    generalize words ((x + y) % m) = RES at *
    generalize words (x + y) = S at *
    generalize words x = X at *
    generalize words y = Y at *
    generalize words m = MM at *
    clear hx hy hm hm2
    go_enter Tryd.func37, Tryd.ntmps37
    go_upto_region 1 with (fail)
    refine wp_rows3 (fun W hk hra hrb hr2 hs => ?_)
    obtain ⟨p, hp⟩ : ∃ p, p = w.heap.size := ⟨_, rfl⟩
    rw [← hp] at hra hrb hr2 hs ⊢
    have hkp : w.heap.size ≤ p := by omega
    obtain ⟨Z, hZ, hrz⟩ : ∃ Z : List Value, Z.length = 4 ∧ Row W (p + 1 + 1) 0 Z := ⟨_, rfl, hr2⟩
    have HRA := Lib.hid (show Row W p 0 (X.map (Value.int .u64)) from hra); have HRB := Lib.hid (show Row W (p + 1) 0 (Y.map (Value.int .u64)) from hrb); have HRZ := Lib.hid hrz; have HK := Lib.hid hk
    have HRM := Lib.hid (HROW.out.keeps hk)
    clear hp hra hrb hr2 hrz hk HROW
    go_wp2_with (first | (refine wpList_load_at rfl 70 (.tmp 4) rfl _ 0 rfl (X.map (Value.int .u64)) _ HRA.out Tryd.underlying70 rfl (by rw [List.length_map, hl]; exact sz_cnum) ?_) | (refine wpList_load_at rfl 70 (.tmp 5) rfl _ 0 rfl (Y.map (Value.int .u64)) _ HRB.out Tryd.underlying70 rfl (by rw [List.length_map, hyl]; exact sz_cnum) ?_) | (go_at_call 65; refine (HPL.out _).mono ?_; rintro e W1 ⟨rfl, hk1⟩; have HK1 := Lib.hid hk1; clear hk1) | (refine wpList_store_row rfl 70 (.tmp 7) (.tmp 13) rfl W1.heap.size 0 rfl [.int .u64 0, .int .u64 0, .int .u64 0, .int .u64 0] (S.map (Value.int .u64)) rfl (Row.new _ _ _ rfl) (by rw [List.length_map, hsl]; rfl) (by rw [List.length_map, hsl]; exact sz_cnum) (int_oneCell _) ?_; intro W2 hr2 hc2; have HR2 := Lib.hid hr2; have HK2 := Lib.hid (nm_keeps_chg (nm_keeps_alloc (Keeps.refl W1) _) hc2 (Nat.le_refl _)); clear hr2 hc2) | (refine wpList_load_at rfl 70 (.tmp 7) rfl _ 0 rfl (S.map (Value.int .u64)) _ HR2.out Tryd.underlying70 rfl (by rw [List.length_map, hsl]; exact sz_cnum) ?_) | (go_at_call 66; refine (HIN.out _ ((HRM.out.keeps HK1.out).keeps HK2.out)).mono ?_; rintro e W3 ⟨rfl, hk3⟩; have HK3 := Lib.hid hk3; clear hk3) | (refine wpList_store_row rfl 70 (.tmp 6) (.tmp 29) rfl (p + 1 + 1) 0 rfl Z (RES.map (Value.int .u64)) rfl (((HRZ.out.keeps HK1.out).keeps HK2.out).keeps HK3.out) (by rw [List.length_map, hrl, hZ]) (by rw [List.length_map, hrl]; exact sz_cnum) (int_oneCell _) ?_; intro w9 hr9 hc9; have H9 := Lib.hid hr9; have HC9 := Lib.hid hc9; clear hr9 hc9))
    exact bodyPost_ret (v := .agg (RES.map (Value.int .u64)).toArray) (results_cell_at (p := 6) (ty := 70) rfl _ _ (p + 1 + 1) 0 _ _ rfl H9.out Tryd.underlying70 rfl (by rw [List.length_map, hrl]; exact sz_cnum)) rfl ⟨rfl, nm_keeps_chg (((HK.out.trans HK1.out).trans HK2.out).trans HK3.out) HC9.out (by omega)⟩
  · have hc : wcarry x y 4 = 1 := by rw [hc4]; omega
    rw [hc] at HPL
    have hu : U256 ((x + y) % 115792089237316195423570985008687907853269984665640564039457584007913129639936) := ⟨by omega, by omega⟩
    have HSUB := Lib.hid (csub_any _ m hu hm)
    rw [words_mod] at HSUB
    have he : words ((x + y) % 115792089237316195423570985008687907853269984665640564039457584007913129639936 - m) = words ((x + y) % m) := by
      apply words_of_mod
      have e2 : (x + y) % m = x + y - m := by
        rw [show x + y = (x + y - m) + m by omega, Int.add_emod_right, Int.emod_eq_of_lt (by omega) (by omega)]
        omega
      rw [e2]
      omega
    rw [he] at HSUB
    generalize decide ((x + y) % 115792089237316195423570985008687907853269984665640564039457584007913129639936 < m) = D at *
    clear he hc hc4 hr hN hu
    generalize words ((x + y) % m) = RES at *
    generalize words (x + y) = S at *
    generalize words x = X at *
    generalize words y = Y at *
    generalize words m = MM at *
    clear hx hy hm hm2
    go_enter Tryd.func37, Tryd.ntmps37
    go_upto_region 1 with (fail)
    refine wp_rows3 (fun W hk hra hrb hr2 hs => ?_)
    obtain ⟨p, hp⟩ : ∃ p, p = w.heap.size := ⟨_, rfl⟩
    rw [← hp] at hra hrb hr2 hs ⊢
    have hkp : w.heap.size ≤ p := by omega
    obtain ⟨Z, hZ, hrz⟩ : ∃ Z : List Value, Z.length = 4 ∧ Row W (p + 1 + 1) 0 Z := ⟨_, rfl, hr2⟩
    have HRA := Lib.hid (show Row W p 0 (X.map (Value.int .u64)) from hra); have HRB := Lib.hid (show Row W (p + 1) 0 (Y.map (Value.int .u64)) from hrb); have HRZ := Lib.hid hrz; have HK := Lib.hid hk
    have HRM := Lib.hid (HROW.out.keeps hk)
    clear hp hra hrb hr2 hrz hk
    go_wp2_with (first | (refine wpList_load_at rfl 70 (.tmp 4) rfl _ 0 rfl (X.map (Value.int .u64)) _ HRA.out Tryd.underlying70 rfl (by rw [List.length_map, hl]; exact sz_cnum) ?_) | (refine wpList_load_at rfl 70 (.tmp 5) rfl _ 0 rfl (Y.map (Value.int .u64)) _ HRB.out Tryd.underlying70 rfl (by rw [List.length_map, hyl]; exact sz_cnum) ?_) | (go_at_call 65; refine (HPL.out _).mono ?_; rintro e W1 ⟨rfl, hk1⟩; have HK1 := Lib.hid hk1; clear hk1) | (refine wpList_store_row rfl 70 (.tmp 7) (.tmp 13) rfl W1.heap.size 0 rfl [.int .u64 0, .int .u64 0, .int .u64 0, .int .u64 0] (S.map (Value.int .u64)) rfl (Row.new _ _ _ rfl) (by rw [List.length_map, hsl]; rfl) (by rw [List.length_map, hsl]; exact sz_cnum) (int_oneCell _) ?_; intro W2 hr2 hc2; have HR2 := Lib.hid hr2; have HK2 := Lib.hid (nm_keeps_chg (nm_keeps_alloc (Keeps.refl W1) _) hc2 (Nat.le_refl _)); clear hr2 hc2))
    have HR7 := HR2
    have hq : p + 1 + 1 < W1.heap.size := Nat.lt_of_lt_of_le (by omega) HK1.out.size
    have HRM2 := Lib.hid ((HRM.out.keeps HK1.out).keeps HK2.out)
    have HRZ2 := Lib.hid ((HRZ.out.keeps HK1.out).keeps HK2.out)
    have HKW := Lib.hid ((HK.out.trans HK1.out).trans HK2.out)
    generalize W1.heap.size = q at *
    go_cut [] (fun wx => Row wx q 0 (RES.map (Value.int .u64)) ∧ Keeps w wx ∧ Row wx (p + 1 + 1) 0 Z)
    case first =>
      refine wp_region_held_drew (S := (fun W' => Keeps w W')) (by kernel_rfl) ?_ (fun hHeld => ?_)
      focus ((try dsimp only); exact keeps_drew1 HKW.out)
      have HR8 := HR7.out.drew
      refine wpAnyH_take (i := 1) (oi := ?_) (v := ?_) ?_ ?_ ?_ ?_ ?_ (Or.inl ⟨?_, ?_⟩) ?_ ?_
      rotate_left 2
      focus (simp only [List.getElem?_toArray, List.getElem?_cons_succ, List.getElem?_cons_zero]; exact rfl)
      iterate 3 focus kernel_rfl
      focus (exact fun _ _ _ h => h)
      focus rfl
      focus ((intro w hSw; (try dsimp only at hSw); go_simp) <;> with_reducible rfl)
      focus assumption
      try simp only [Act.put, List.setIfInBounds_toArray, List.set_cons_zero, List.set_cons_succ]
      refine wpAnyH_take (i := 2) (oi := ?_) (v := ?_) ?_ ?_ ?_ ?_ ?_ (Or.inl ⟨?_, ?_⟩) ?_ ?_
      rotate_left 2
      focus (simp only [List.getElem?_toArray, List.getElem?_cons_succ, List.getElem?_cons_zero]; exact rfl)
      iterate 3 focus kernel_rfl
      focus (exact fun _ _ _ h => h)
      focus rfl
      focus ((intro w hSw; (try dsimp only at hSw); go_simp) <;> with_reducible rfl)
      focus assumption
      try simp only [Act.put, List.setIfInBounds_toArray, List.set_cons_zero, List.set_cons_succ]
      refine wpAnyH_take (i := 3) (oi := ?_) (v := ?_) ?_ ?_ ?_ ?_ ?_ (Or.inl ⟨?_, ?_⟩) ?_ ?_
      rotate_left 2
      focus (simp only [List.getElem?_toArray, List.getElem?_cons_succ, List.getElem?_cons_zero]; exact rfl)
      iterate 3 focus kernel_rfl
      focus (exact fun _ _ _ h => h)
      focus rfl
      focus ((intro w hSw; (try dsimp only at hSw); go_simp) <;> with_reducible rfl)
      focus assumption
      try simp only [Act.put, List.setIfInBounds_toArray, List.set_cons_zero, List.set_cons_succ]
      refine wpAnyH_take (i := 4) (oi := ?_) (v := ?_) ?_ ?_ ?_ ?_ ?_ ?_ ?_ ?_
      rotate_left 2
      focus (simp only [List.getElem?_toArray, List.getElem?_cons_succ, List.getElem?_cons_zero]; exact rfl)
      iterate 3 focus kernel_rfl
      focus (exact fun _ _ _ h => h)
      focus (refine cu_yields_row ?_ 70 (.tmp 21) ?_ g off ?_ (MM.map (Value.int .u64)) _ ?_ Tryd.underlying70 ?_ (by rw [List.length_map, hml]; exact sz_cnum) <;> first | rfl | exact (fun w hw => HROW.out.keeps hw))
      focus assumption
      try simp only [Act.put, List.setIfInBounds_toArray, List.set_cons_zero, List.set_cons_succ]
      refine wpAnyH_ready (rs := [0]) (by kernel_rfl) (by simp) ?_
      refine AllReadyH.cons (o := ?_) ?_ (fun K hK => ?_) ?_
      rotate_left 1
      focus (simp only [List.getElem?_toArray, List.getElem?_cons_succ, List.getElem?_cons_zero]; exact rfl)
      · rw [if_pos (by rfl)]
        refine cu_load_do 70 (.tmp 7) rfl q 0 rfl (S.map (Value.int .u64)) _ HR8 Tryd.underlying70 rfl (by rw [List.length_map, hsl]; exact sz_cnum) ?_
        refine hK.out _ _ ?_ ?_
        focus ((try dsimp only); first | exact hHeld | exact hk9 | exact nm_keeps_chg hk9 hc9 (by omega))
        clear hK K hHeld
        intro hHeld
        try simp only [Act.put, List.setIfInBounds_toArray, List.set_cons_zero, List.set_cons_succ]
        refine wpAnyH_ready (rs := [5]) (by kernel_rfl) (by simp) ?_
        refine AllReadyH.cons (o := ?_) ?_ (fun K hK => ?_) ?_
        rotate_left 1
        focus (simp only [List.getElem?_toArray, List.getElem?_cons_succ, List.getElem?_cons_zero]; exact rfl)
        · rw [if_pos (by rfl)]
          go_simp; go_at_call 64; refine (HSUB.out _).mono ?_; rintro e W3 ⟨rfl, hk1⟩; have hk9 := hHeld.trans hk1
          refine hK.out _ _ ?_ ?_
          focus ((try dsimp only); first | exact hHeld | exact hk9 | exact nm_keeps_chg hk9 hc9 (by omega))
          clear hK K hHeld
          intro hHeld
          try simp only [Act.put, List.setIfInBounds_toArray, List.set_cons_zero, List.set_cons_succ]
          refine wpAnyH_take (i := 6) (oi := ?_) (v := ?_) ?_ ?_ ?_ ?_ ?_ (Or.inl ⟨?_, ?_⟩) ?_ ?_
          rotate_left 2
          focus (simp only [List.getElem?_toArray, List.getElem?_cons_succ, List.getElem?_cons_zero]; exact rfl)
          iterate 3 focus kernel_rfl
          focus (exact fun _ _ _ h => h)
          focus rfl
          focus ((intro w hSw; (try dsimp only at hSw); go_simp) <;> with_reducible rfl)
          focus assumption
          try simp only [Act.put, List.setIfInBounds_toArray, List.set_cons_zero, List.set_cons_succ]
          refine wpAnyH_take (i := 7) (oi := ?_) (v := ?_) ?_ ?_ ?_ ?_ ?_ (Or.inl ⟨?_, ?_⟩) ?_ ?_
          rotate_left 2
          focus (simp only [List.getElem?_toArray, List.getElem?_cons_succ, List.getElem?_cons_zero]; exact rfl)
          iterate 3 focus kernel_rfl
          focus (exact fun _ _ _ h => h)
          focus rfl
          focus ((intro w hSw; (try dsimp only at hSw); go_simp) <;> with_reducible rfl)
          focus assumption
          try simp only [Act.put, List.setIfInBounds_toArray, List.set_cons_zero, List.set_cons_succ]
          refine wpAnyH_take (i := 8) (oi := ?_) (v := ?_) ?_ ?_ ?_ ?_ ?_ (Or.inl ⟨?_, ?_⟩) ?_ ?_
          rotate_left 2
          focus (simp only [List.getElem?_toArray, List.getElem?_cons_succ, List.getElem?_cons_zero]; exact rfl)
          iterate 3 focus kernel_rfl
          focus (exact fun _ _ _ h => h)
          focus rfl
          focus ((intro w hSw; (try dsimp only at hSw); go_simp) <;> with_reducible rfl)
          focus assumption
          try simp only [Act.put, List.setIfInBounds_toArray, List.set_cons_zero, List.set_cons_succ]
          refine wpAnyH_ready (rs := [9]) (by kernel_rfl) (by simp) ?_
          refine AllReadyH.cons (o := ?_) ?_ (fun K hK => ?_) ?_
          rotate_left 1
          focus (simp only [List.getElem?_toArray, List.getElem?_cons_succ, List.getElem?_cons_zero]; exact rfl)
          · rw [if_pos (by rfl)]
            refine cu_store_rowK 70 (.tmp 7) (.tmp 24) rfl _ 0 rfl (S.map (Value.int .u64)) (RES.map (Value.int .u64)) rfl (HR8.keeps hk1) (by simp [hsl, hrl]) (by rw [List.length_map, hrl]; exact sz_cnum) (int_oneCell _) ?_; intro W9 hr9 hc9
            refine hK.out _ _ ?_ ?_
            focus ((try dsimp only); first | exact hHeld | exact hk9 | exact nm_keeps_chg hk9 hc9 (by omega))
            clear hK K hHeld
            intro hHeld
            try simp only [Act.put, List.setIfInBounds_toArray, List.set_cons_zero, List.set_cons_succ]
            refine wpAnyH_done (by kernel_rfl) ?_ _
            (go_wp2; go_meet; case rel => exact ⟨by assumption, by assumption, ((HRZ2.out.drew).keeps hk1).chg hc9 (by omega)⟩)
          exact AllReadyH.nil
        exact AllReadyH.nil
      exact AllReadyH.nil
    case rest =>
      obtain ⟨hr7, hk, hrz⟩ := hcut
      have H7 := Lib.hid hr7; have H2 := Lib.hid hrz; have HKZ := Lib.hid hk
      clear hr7 hk hrz
      go_wp2_with (first | (refine wpList_load_at rfl 70 (.tmp 7) rfl _ 0 rfl (RES.map (Value.int .u64)) _ H7.out Tryd.underlying70 rfl (by rw [List.length_map, hrl]; exact sz_cnum) ?_) | (refine wpList_store_row rfl 70 (.tmp 6) (.tmp 26) rfl (p + 1 + 1) 0 rfl Z (RES.map (Value.int .u64)) rfl H2.out (by rw [List.length_map, hrl, hZ]) (by rw [List.length_map, hrl]; exact sz_cnum) (int_oneCell _) ?_; intro w9 hr9 hc9; have H9 := Lib.hid hr9; have HC9 := Lib.hid hc9; clear hr9 hc9))
      exact bodyPost_ret (v := .agg (RES.map (Value.int .u64)).toArray) (results_cell_at (p := 6) (ty := 70) rfl _ _ (p + 1 + 1) 0 _ _ rfl H9.out Tryd.underlying70 rfl (by rw [List.length_map, hrl]; exact sz_cnum)) rfl ⟨rfl, nm_keeps_chg HKZ.out HC9.out (by omega)⟩
end Go.Proofs.YtlofddoojkeakaaDoor
