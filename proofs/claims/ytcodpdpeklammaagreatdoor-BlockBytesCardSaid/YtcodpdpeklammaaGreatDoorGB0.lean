/- The reference's Compact. (Printed by gref01.py.) -/
import Derived.Test.YtcodpdpeklammaaGreatDoorGA9
namespace Go.Proofs.YtcodpdpeklammaaGreatDoor
set_option linter.unusedVariables false
set_option linter.unusedSimpArgs false
open Go Go.RowKit
theorem size_small1 {l l' : List Int} {x : Int} (h : rdNum 1 l = .ok (x, l')) (hx : x < 253) : rdSize l = .ok (x, l') := by unfold rdSize; rw [rdBind_ok h, if_pos hx]; rfl
theorem size_e1 {l : List Int} {c : Int} (h : rdNum 1 l = .error c) : rdSize l = .error c := by unfold rdSize; exact rdBind_err h
theorem size_e2 {l l' : List Int} {x c : Int} (h : rdNum 1 l = .ok (x, l')) (hx : ¬ x < 253) (h2 : rdNum (markLen x) l' = .error c) : rdSize l = .error c := by unfold rdSize; rw [rdBind_ok h, if_neg hx]; exact rdBind_err h2
theorem size_e3 {l l' l2 : List Int} {x y : Int} (h : rdNum 1 l = .ok (x, l')) (hx : ¬ x < 253) (h2 : rdNum (markLen x) l' = .ok (y, l2)) (hy : (sizeB y).length ≠ markLen x + 1) : rdSize l = .error 3 := by unfold rdSize; rw [rdBind_ok h, if_neg hx, rdBind_ok h2, if_pos hy]; rfl
theorem size_e4 {l l' l2 : List Int} {x y : Int} (h : rdNum 1 l = .ok (x, l')) (hx : ¬ x < 253) (h2 : rdNum (markLen x) l' = .ok (y, l2)) (hy : (sizeB y).length = markLen x + 1) (hb : 33554432 < y) : rdSize l = .error 2 := by unfold rdSize; rw [rdBind_ok h, if_neg hx, rdBind_ok h2, if_neg (by omega), if_pos hb]; rfl
theorem size_ok2 {l l' l2 : List Int} {x y : Int} (h : rdNum 1 l = .ok (x, l')) (hx : ¬ x < 253) (h2 : rdNum (markLen x) l' = .ok (y, l2)) (hy : (sizeB y).length = markLen x + 1) (hb : ¬ 33554432 < y) : rdSize l = .ok (y, l2) := by unfold rdSize; rw [rdBind_ok h, if_neg hx, rdBind_ok h2, if_neg (by omega), if_neg hb]; rfl
theorem RfR.zero {α : Type} {p : Rdr α} {e : Int} {l l' : List Int} {x : α} (h : RfR p e l x 0 l') : e = 0 ∧ p l = .ok (x, l') := by
  rcases h with ⟨h1, h2⟩ | ⟨h1, h2, h3⟩ | ⟨h1, h2, h3⟩
  · exact absurd h2.symm h1
  · exact ⟨h1, h3⟩
  · exact absurd rfl h2
theorem RfR.bad {α β : Type} {p : Rdr α} {q : Rdr β} {e : Int} {l l' l2 : List Int} {x : α} {y : β} {e' : Int} (h : RfR p e l x e' l') (he : e' ≠ 0) (hq : ∀ c, p l = .error c → q l = .error c) : RfR q e l y e' l2 := by
  rcases h with ⟨h1, h2⟩ | ⟨h1, h2, h3⟩ | ⟨h1, h2, h3⟩
  · exact .inl ⟨h1, h2⟩
  · exact absurd h2 he
  · exact .inr (.inr ⟨h1, h2, hq _ h3⟩)
set_option maxRecDepth 100000 in
set_option maxHeartbeats 4000000 in
theorem rcompact_any (S : Nat → Prop) (bv : Value) (l : List Int) (k : Nat) (e : Int) (w : World) (hb : RB S w bv l) (hk : k ≤ l.length) :
    Calls Tryz.prog 41 #[inV bv k e] w (RfP rdSize encN bv l k e w) := by
  have HB := Lib.hid hb; have HK := Lib.hid hk
  obtain ⟨a, cap, rfl, hlc, hcm, hnil⟩ := hb.any
  have hsm := hb.small
  have HSM := Lib.hid hsm
  clear hb hlc hcm hnil hsm
  unfold inV
  go_enter Tryz.func41, Tryz.ntmps41
  go_upto_region 1 with (fail)
  refine wp_rows2 (fun W0 hk0 hr1 hr2 hsz => ?_)
  simp only at hr1 hr2
  obtain ⟨p, hp⟩ : ∃ p, p = w.heap.size := ⟨_, rfl⟩
  rw [← hp] at hr1 hr2 hsz ⊢
  have HP := Lib.hid hp; have HSZ := Lib.hid hsz; have HK0 := Lib.hid hk0; have HR1 := Lib.hid hr1; have HR2 := Lib.hid hr2
  clear hk0 hr1 hr2 hp hsz
  go_upto_region 2 with (first
    | (refine wpList_load_at rfl 81 (.tmp 1) rfl p 0 rfl _ _ HR1.out Tryz.underlying81 rfl (sz_inv _ _ _) ?_)
    | (go_at_call 72; refine (rnum_any S (.slice a l.length cap) l k e 1 (by omega) W0 (HB.out.keeps HK0.out) HK.out).mono ?_; intro r W1 hpst; obtain ⟨hk1, x1, val, k1, e1, rfl, hkl, hrr, rfl, x0, x9⟩ := hpst; have HK1 := Lib.hid hk1; have HKL := Lib.hid hkl; have HRR := Lib.hid hrr; have HX := Lib.hid (And.intro x0 x9); clear hk1 hkl hrr x0 x9; unfold inV))
  have hpq : p + 1 < W1.heap.size := by have h1 := HSZ.out; have h2 := HK1.out.size; omega
  have HPQ := Lib.hid hpq
  clear hpq
  have hrN : Row (W1.alloc (.cells #[.slice a l.length cap, .int .i64 k1, .int .i64 e1] 81)) W1.heap.size 0 [.slice a l.length cap, .int .i64 k1, .int .i64 e1] := Row.new _ _ _ rfl
  have hkN : Keeps W1 (W1.alloc (.cells #[.slice a l.length cap, .int .i64 k1, .int .i64 e1] 81)) := keeps_alloc (Keeps.refl _) _
  have hr1' := (HR1.out.keeps HK1.out).keeps hkN
  have hr2' := (HR2.out.keeps HK1.out).keeps hkN
  have hkb := (HK0.out.trans HK1.out).trans hkN
  have HNq := Lib.hid hrN; have HKq := Lib.hid hkb; have HR1 := Lib.hid hr1'; have HR2 := Lib.hid hr2'
  clear hrN hkN hkb hr1' hr2'
  generalize (W1.alloc (.cells #[.slice a l.length cap, .int .i64 k1, .int .i64 e1] 81)) = W5 at *
  generalize W1.heap.size = q at *
  obtain ⟨⟨c0, c1, c2⟩, f1, f2⟩ := HNq.out.cell3
  by_cases he1 : e1 = 0
  rotate_left
  focus
    go_upto_region 3 with (fail)
    refine wp_region_head (S := fun W => Hid ((fun W => Row W q 0 [.slice a l.length cap, .int .i64 k1, .int .i64 e1]) W)) 3 (by kernel_rfl) (by kernel_rfl) ?_ (fun hHeld => ?_)
    focus exact Lib.hid HNq.out.drew
    refine wpAnyHL_take (i := 0) (oi := ?_) (v := ?_) ?_ ?_ ?_ ?_ ?_ ?_ ?_ ?_ ?_ (Or.inl ⟨?_, ?_⟩) ?_ ?_
    rotate_left 2
    focus (simp only [List.getElem?_toArray, List.getElem?_cons_succ, List.getElem?_cons_zero]; exact rfl)
    iterate 7 focus kernel_rfl
    focus (exact fun _ _ _ h => h)
    focus rfl
    focus ((intro wSw hSw; (have hSw := hSw.out); (try dsimp only at hSw); go_simp) <;> with_reducible rfl)
    focus assumption
    try simp only [Act.put, List.setIfInBounds_toArray, List.set_cons_zero, List.set_cons_succ]
    refine wpAnyHL_take (i := 1) (oi := ?_) (v := ?_) ?_ ?_ ?_ ?_ ?_ ?_ ?_ ?_ ?_ (Or.inl ⟨?_, ?_⟩) ?_ ?_
    rotate_left 2
    focus (simp only [List.getElem?_toArray, List.getElem?_cons_succ, List.getElem?_cons_zero]; exact rfl)
    iterate 7 focus kernel_rfl
    focus (exact fun _ _ _ h => h)
    focus rfl
    focus (intro wSw hSw; (have hSw := hSw.out); (refine run_load_row 81 (.tmp 5) ?_ q 0 ?_ _ _ hSw Tryz.underlying81 rfl (sz_inv _ _ _)) <;> rfl)
    focus assumption
    try simp only [Act.put, List.setIfInBounds_toArray, List.set_cons_zero, List.set_cons_succ]
    refine wpAnyHL_take (i := 2) (oi := ?_) (v := ?_) ?_ ?_ ?_ ?_ ?_ ?_ ?_ ?_ ?_ (Or.inl ⟨?_, ?_⟩) ?_ ?_
    rotate_left 2
    focus (simp only [List.getElem?_toArray, List.getElem?_cons_succ, List.getElem?_cons_zero]; exact rfl)
    iterate 7 focus kernel_rfl
    focus (exact fun _ _ _ h => h)
    focus rfl
    focus ((intro wSw hSw; (have hSw := hSw.out); (try dsimp only at hSw); go_simp) <;> with_reducible rfl)
    focus assumption
    try simp only [Act.put, List.setIfInBounds_toArray, List.set_cons_zero, List.set_cons_succ]
    refine wpAnyHL_done (by kernel_rfl) ?_
    try simp only [List.drop_succ_cons, List.drop_zero]
    go_wp2_with (refine wpList_store_row rfl 81 (.tmp 3) (.tmp 23) rfl (p + 1) 0 rfl _ [.slice a l.length cap, .int .i64 k1, .int .i64 e1] rfl HR2.out.drew rfl (sz_inv _ _ _) (three_one _ _ _ _ _) ?_; intro WR hrR hcR; have HWR := Lib.hid hrR; have HCR := Lib.hid hcR; clear hrR hcR)
    refine bodyPost_ret (results_tmp_cell (t := 2) (p := 3) rfl _ _ (p + 1) 0 _ _ _ rfl rfl HWR.out Tryz.underlying81 rfl (sz_inv _ _ _)) rfl ?_
    have hkk : Keeps w WR := keeps_chg (keeps_drew HKq.out) HCR.out (by have := HP.out; omega)
    exact ⟨hkk, x1, _, k1, e1, rfl, HKL.out, HRR.out.bad he1 (fun c h => size_e1 h), rfl, HX.out⟩
  subst he1
  obtain ⟨rfl, hnum⟩ := HRR.out.zero
  have HNUM := Lib.hid hnum
  have hx255 : x1 < 256 := by
    have := (rdNum_inv (bytes_drop HB.out.bytes k) hnum).2.1
    simpa using this
  have HX255 := Lib.hid hx255
  clear hnum hx255
  by_cases hx1 : x1 < 253
  focus
    go_upto_region 3 with (fail)
    refine wp_region_head (S := fun W => Hid ((fun W => Row W q 0 [.slice a l.length cap, .int .i64 k1, .int .i64 0]) W)) 3 (by kernel_rfl) (by kernel_rfl) ?_ (fun hHeld => ?_)
    focus exact Lib.hid HNq.out.drew
    refine wpAnyHL_take (i := 0) (oi := ?_) (v := ?_) ?_ ?_ ?_ ?_ ?_ ?_ ?_ ?_ ?_ (Or.inl ⟨?_, ?_⟩) ?_ ?_
    rotate_left 2
    focus (simp only [List.getElem?_toArray, List.getElem?_cons_succ, List.getElem?_cons_zero]; exact rfl)
    iterate 7 focus kernel_rfl
    focus (exact fun _ _ _ h => h)
    focus rfl
    focus ((intro wSw hSw; (have hSw := hSw.out); (try dsimp only at hSw); go_simp) <;> with_reducible rfl)
    focus assumption
    try simp only [Act.put, List.setIfInBounds_toArray, List.set_cons_zero, List.set_cons_succ]
    refine wpAnyHL_take (i := 1) (oi := ?_) (v := ?_) ?_ ?_ ?_ ?_ ?_ ?_ ?_ ?_ ?_ (Or.inl ⟨?_, ?_⟩) ?_ ?_
    rotate_left 2
    focus (simp only [List.getElem?_toArray, List.getElem?_cons_succ, List.getElem?_cons_zero]; exact rfl)
    iterate 7 focus kernel_rfl
    focus (exact fun _ _ _ h => h)
    focus rfl
    focus (intro wSw hSw; (have hSw := hSw.out); (refine run_load_row 81 (.tmp 5) ?_ q 0 ?_ _ _ hSw Tryz.underlying81 rfl (sz_inv _ _ _)) <;> rfl)
    focus assumption
    try simp only [Act.put, List.setIfInBounds_toArray, List.set_cons_zero, List.set_cons_succ]
    refine wpAnyHL_take (i := 2) (oi := ?_) (v := ?_) ?_ ?_ ?_ ?_ ?_ ?_ ?_ ?_ ?_ (Or.inl ⟨?_, ?_⟩) ?_ ?_
    rotate_left 2
    focus (simp only [List.getElem?_toArray, List.getElem?_cons_succ, List.getElem?_cons_zero]; exact rfl)
    iterate 7 focus kernel_rfl
    focus (exact fun _ _ _ h => h)
    focus rfl
    focus ((intro wSw hSw; (have hSw := hSw.out); (try dsimp only at hSw); go_simp) <;> with_reducible rfl)
    focus assumption
    try simp only [Act.put, List.setIfInBounds_toArray, List.set_cons_zero, List.set_cons_succ]
    refine wpAnyHL_done (by kernel_rfl) ?_
    try simp only [List.drop_succ_cons, List.drop_zero]
    go_wp2_with (refine wpList_store_row rfl 81 (.tmp 3) (.tmp 23) rfl (p + 1) 0 rfl _ [.slice a l.length cap, .int .i64 k1, .int .i64 0] rfl HR2.out.drew rfl (sz_inv _ _ _) (three_one _ _ _ _ _) ?_; intro WR hrR hcR; have HWR := Lib.hid hrR; have HCR := Lib.hid hcR; clear hrR hcR)
    refine bodyPost_ret (results_tmp_cell (t := 2) (p := 3) rfl _ _ (p + 1) 0 _ _ _ rfl rfl HWR.out Tryz.underlying81 rfl (sz_inv _ _ _)) rfl ?_
    have hkk : Keeps w WR := keeps_chg (keeps_drew HKq.out) HCR.out (by have := HP.out; omega)
    exact ⟨hkk, x1, _, k1, 0, rfl, HKL.out, .inr (.inl ⟨rfl, rfl, size_small1 HNUM.out hx1⟩), rfl, HX.out⟩
  have HX1 := Lib.hid hx1
  have hcases : x1 = 253 ∨ x1 = 254 ∨ x1 = 255 := by have := HX255.out; omega
  clear hx1
  rcases hcases with hc | hc | hc
  focus
    obtain rfl := hc
    go_upto_region 10 with (first
      | (refine wpList_load_at rfl 81 (.tmp 5) rfl q 0 rfl _ _ HNq.out Tryz.underlying81 rfl (sz_inv _ _ _) ?_)
      | (go_at_call 72; refine (rnum_any S (.slice a l.length cap) l k1 0 2 (by omega) W5 (HB.out.keeps HKq.out) HKL.out).mono ?_; intro r W6 hpst; obtain ⟨hk6, x2, val6, k2, e2, rfl, hkl2, hrr2, rfl, y0, y9⟩ := hpst; have HK6 := Lib.hid hk6; have HKL2 := Lib.hid hkl2; have HRR2 := Lib.hid hrr2; have HY := Lib.hid (And.intro y0 y9); clear hk6 hkl2 hrr2 y0 y9; unfold inV))
    clear c0 c1 c2 f1 f2
    have hpq2 : p + 1 < W6.heap.size := by have h1 := (HNq.out).lt (by simp); have h2 := HK6.out.size; have h3 := HPQ.out; omega
    have HPQ2 := Lib.hid hpq2
    clear hpq2
    have hrN : Row (W6.alloc (.cells #[.slice a l.length cap, .int .i64 k2, .int .i64 e2] 81)) W6.heap.size 0 [.slice a l.length cap, .int .i64 k2, .int .i64 e2] := Row.new _ _ _ rfl
    have hkN : Keeps W6 (W6.alloc (.cells #[.slice a l.length cap, .int .i64 k2, .int .i64 e2] 81)) := keeps_alloc (Keeps.refl _) _
    have hr1' := (HR1.out.keeps HK6.out).keeps hkN
    have hr2' := (HR2.out.keeps HK6.out).keeps hkN
    have hkb := (HKq.out.trans HK6.out).trans hkN
    have HNq2 := Lib.hid hrN; have HKq2 := Lib.hid hkb; have HR1 := Lib.hid hr1'; have HR2 := Lib.hid hr2'
    clear hrN hkN hkb hr1' hr2'
    generalize (W6.alloc (.cells #[.slice a l.length cap, .int .i64 k2, .int .i64 e2] 81)) = W8 at *
    generalize W6.heap.size = q2 at *
    obtain ⟨⟨c0, c1, c2⟩, f1, f2⟩ := HNq2.out.cell3
    obtain ⟨⟨b0, b1, b2⟩, g1, g2⟩ := HR1.out.cell3
    by_cases he2 : e2 = 0
    rotate_left
    focus
      go_upto_region 17 with (fail)
      have hr9 : Row (W8.setCell ⟨p, 2, none⟩ (.int .i64 e2)) p 0 [.slice a l.length cap, .int .i64 k, .int .i64 e2] := by
        have := HR1.out.set 2 (by simp) (.int .i64 e2)
        simpa using this
      have hq9 : Row (W8.setCell ⟨p, 2, none⟩ (.int .i64 e2)) (p + 1) 0 [.slice none 0 0, .int .i64 0, .int .i64 0] := HR2.out.other (by show p + 1 ≠ p; omega) _
      have hk9 : Keeps w (W8.setCell ⟨p, 2, none⟩ (.int .i64 e2)) := keeps_chg HKq2.out (Chg.cell p 2 _) (by have := HP.out; omega)
      have HR9 := Lib.hid hr9; have HQ9 := Lib.hid hq9; have HK9 := Lib.hid hk9
      clear hr9 hq9 hk9 b0 b1 b2 g1 g2
      generalize W8.setCell ⟨p, 2, none⟩ (.int .i64 e2) = W9 at *
      refine wp_region_head (S := fun W => Hid ((fun W => Row W p 0 [.slice a l.length cap, .int .i64 k, .int .i64 e2]) W)) 2 (by kernel_rfl) (by kernel_rfl) ?_ (fun hHeld => ?_)
      focus exact Lib.hid HR9.out.drew
      refine wpAnyHL_take (i := 0) (oi := ?_) (v := ?_) ?_ ?_ ?_ ?_ ?_ ?_ ?_ ?_ ?_ (Or.inl ⟨?_, ?_⟩) ?_ ?_
      rotate_left 2
      focus (simp only [List.getElem?_toArray, List.getElem?_cons_succ, List.getElem?_cons_zero]; exact rfl)
      iterate 7 focus kernel_rfl
      focus (exact fun _ _ _ h => h)
      focus rfl
      focus (intro wSw hSw; (have hSw := hSw.out); (refine run_load_row 81 (.tmp 1) ?_ p 0 ?_ _ _ hSw Tryz.underlying81 rfl (sz_inv _ _ _)) <;> rfl)
      focus assumption
      try simp only [Act.put, List.setIfInBounds_toArray, List.set_cons_zero, List.set_cons_succ]
      refine wpAnyHL_take (i := 1) (oi := ?_) (v := ?_) ?_ ?_ ?_ ?_ ?_ ?_ ?_ ?_ ?_ (Or.inl ⟨?_, ?_⟩) ?_ ?_
      rotate_left 2
      focus (simp only [List.getElem?_toArray, List.getElem?_cons_succ, List.getElem?_cons_zero]; exact rfl)
      iterate 7 focus kernel_rfl
      focus (exact fun _ _ _ h => h)
      focus rfl
      focus ((intro wSw hSw; (have hSw := hSw.out); (try dsimp only at hSw); go_simp) <;> with_reducible rfl)
      focus assumption
      try simp only [Act.put, List.setIfInBounds_toArray, List.set_cons_zero, List.set_cons_succ]
      refine wpAnyHL_done (by kernel_rfl) ?_
      try simp only [List.drop_succ_cons, List.drop_zero]
      go_wp2_with (refine wpList_store_row rfl 81 (.tmp 3) (.tmp 56) rfl (p + 1) 0 rfl _ [.slice a l.length cap, .int .i64 k, .int .i64 e2] rfl HQ9.out.drew rfl (sz_inv _ _ _) (three_one _ _ _ _ _) ?_; intro WR hrR hcR; have HWR := Lib.hid hrR; have HCR := Lib.hid hcR; clear hrR hcR)
      refine bodyPost_ret (results_tmp_cell (t := 2) (p := 3) rfl _ _ (p + 1) 0 _ _ _ rfl rfl HWR.out Tryz.underlying81 rfl (sz_inv _ _ _)) rfl ?_
      have hkk : Keeps w WR := keeps_chg (keeps_drew HK9.out) HCR.out (by have := HP.out; omega)
      have herr : rdNum 2 (l.drop k1) = .error e2 := by
        rcases HRR2.out with ⟨h, _⟩ | ⟨_, h, _⟩ | ⟨_, _, h⟩
        · exact absurd rfl h
        · exact absurd h he2
        · exact h
      exact ⟨hkk, 0, _, k, e2, rfl, HK.out, .inr (.inr ⟨rfl, he2, size_e2 HNUM.out (by decide) herr⟩), rfl, by decide, by decide⟩
    subst he2
    have HNUM2 := Lib.hid (HRR2.out.zero).2
    obtain ⟨sl, hsl⟩ : ∃ sl, sl = (sizeB x2).length := ⟨_, rfl⟩
    have HSIZE := Lib.hid (show ∀ W, Calls Tryz.prog 30 #[.int .u64 x2] W (fun e w' => ∃ v, e = .returned v ∧ Own W w' v sl (sizeB x2)) from fun W => by rw [hsl]; exact size_any x2 HY.out.1 HY.out.2 W)
    have HSL := Lib.hid hsl
    clear hsl
    by_cases hs : sl = 2 + 1
    rotate_left
    focus
      have hs2 : ¬ (sl : Int) = 2 + 1 := by omega
      go_upto_region 17 with (go_at_call 30; refine (HSIZE.out _).mono ?_; rintro r W10 ⟨v10, rfl, hO10⟩; obtain ⟨a10, c10, rfl⟩ := hO10.any; have HK10 := Lib.hid hO10.keeps; obtain ⟨⟨d0, d1, d2⟩, h1, h2⟩ := (HR1.out.keeps hO10.keeps).cell3; clear hO10)
      have hr9 : Row (W10.setCell ⟨p, 2, none⟩ (.int .i64 3)) p 0 [.slice a l.length cap, .int .i64 k, .int .i64 3] := by
        have := (HR1.out.keeps HK10.out).set 2 (by simp) (.int .i64 3)
        simpa using this
      have hq9 : Row (W10.setCell ⟨p, 2, none⟩ (.int .i64 3)) (p + 1) 0 [.slice none 0 0, .int .i64 0, .int .i64 0] := (HR2.out.keeps HK10.out).other (by show p + 1 ≠ p; omega) _
      have hk9 : Keeps w (W10.setCell ⟨p, 2, none⟩ (.int .i64 3)) := keeps_chg (HKq2.out.trans HK10.out) (Chg.cell p 2 _) (by have := HP.out; omega)
      have HR9 := Lib.hid hr9; have HQ9 := Lib.hid hq9; have HK9 := Lib.hid hk9
      clear hr9 hq9 hk9 d0 d1 d2 h1 h2
      generalize W10.setCell ⟨p, 2, none⟩ (.int .i64 3) = W9 at *
      refine wp_region_head (S := fun W => Hid ((fun W => Row W p 0 [.slice a l.length cap, .int .i64 k, .int .i64 3]) W)) 2 (by kernel_rfl) (by kernel_rfl) ?_ (fun hHeld => ?_)
      focus exact Lib.hid HR9.out.drew
      refine wpAnyHL_take (i := 0) (oi := ?_) (v := ?_) ?_ ?_ ?_ ?_ ?_ ?_ ?_ ?_ ?_ (Or.inl ⟨?_, ?_⟩) ?_ ?_
      rotate_left 2
      focus (simp only [List.getElem?_toArray, List.getElem?_cons_succ, List.getElem?_cons_zero]; exact rfl)
      iterate 7 focus kernel_rfl
      focus (exact fun _ _ _ h => h)
      focus rfl
      focus (intro wSw hSw; (have hSw := hSw.out); (refine run_load_row 81 (.tmp 1) ?_ p 0 ?_ _ _ hSw Tryz.underlying81 rfl (sz_inv _ _ _)) <;> rfl)
      focus assumption
      try simp only [Act.put, List.setIfInBounds_toArray, List.set_cons_zero, List.set_cons_succ]
      refine wpAnyHL_take (i := 1) (oi := ?_) (v := ?_) ?_ ?_ ?_ ?_ ?_ ?_ ?_ ?_ ?_ (Or.inl ⟨?_, ?_⟩) ?_ ?_
      rotate_left 2
      focus (simp only [List.getElem?_toArray, List.getElem?_cons_succ, List.getElem?_cons_zero]; exact rfl)
      iterate 7 focus kernel_rfl
      focus (exact fun _ _ _ h => h)
      focus rfl
      focus ((intro wSw hSw; (have hSw := hSw.out); (try dsimp only at hSw); go_simp) <;> with_reducible rfl)
      focus assumption
      try simp only [Act.put, List.setIfInBounds_toArray, List.set_cons_zero, List.set_cons_succ]
      refine wpAnyHL_done (by kernel_rfl) ?_
      try simp only [List.drop_succ_cons, List.drop_zero]
      go_wp2_with (refine wpList_store_row rfl 81 (.tmp 3) (.tmp 56) rfl (p + 1) 0 rfl _ [.slice a l.length cap, .int .i64 k, .int .i64 3] rfl HQ9.out.drew rfl (sz_inv _ _ _) (three_one _ _ _ _ _) ?_; intro WR hrR hcR; have HWR := Lib.hid hrR; have HCR := Lib.hid hcR; clear hrR hcR)
      refine bodyPost_ret (results_tmp_cell (t := 2) (p := 3) rfl _ _ (p + 1) 0 _ _ _ rfl rfl HWR.out Tryz.underlying81 rfl (sz_inv _ _ _)) rfl ?_
      have hkk : Keeps w WR := keeps_chg (keeps_drew HK9.out) HCR.out (by have := HP.out; omega)
      exact ⟨hkk, 0, _, k, 3, rfl, HK.out, .inr (.inr ⟨rfl, by decide, size_e3 HNUM.out (by decide) HNUM2.out (fun h => hs (by rw [HSL.out]; exact h))⟩), rfl, by decide, by decide⟩
    subst hs
    by_cases hbig : (33554432 : Int) < x2
    focus
      go_upto_region 17 with (go_at_call 30; refine (HSIZE.out _).mono ?_; rintro r W10 ⟨v10, rfl, hO10⟩; obtain ⟨a10, c10, rfl⟩ := hO10.any; have HK10 := Lib.hid hO10.keeps; obtain ⟨⟨d0, d1, d2⟩, h1, h2⟩ := (HR1.out.keeps hO10.keeps).cell3; clear hO10)
      have hr9 : Row (W10.setCell ⟨p, 2, none⟩ (.int .i64 2)) p 0 [.slice a l.length cap, .int .i64 k, .int .i64 2] := by
        have := (HR1.out.keeps HK10.out).set 2 (by simp) (.int .i64 2)
        simpa using this
      have hq9 : Row (W10.setCell ⟨p, 2, none⟩ (.int .i64 2)) (p + 1) 0 [.slice none 0 0, .int .i64 0, .int .i64 0] := (HR2.out.keeps HK10.out).other (by show p + 1 ≠ p; omega) _
      have hk9 : Keeps w (W10.setCell ⟨p, 2, none⟩ (.int .i64 2)) := keeps_chg (HKq2.out.trans HK10.out) (Chg.cell p 2 _) (by have := HP.out; omega)
      have HR9 := Lib.hid hr9; have HQ9 := Lib.hid hq9; have HK9 := Lib.hid hk9
      clear hr9 hq9 hk9 d0 d1 d2 h1 h2
      generalize W10.setCell ⟨p, 2, none⟩ (.int .i64 2) = W9 at *
      refine wp_region_head (S := fun W => Hid ((fun W => Row W p 0 [.slice a l.length cap, .int .i64 k, .int .i64 2]) W)) 2 (by kernel_rfl) (by kernel_rfl) ?_ (fun hHeld => ?_)
      focus exact Lib.hid HR9.out.drew
      refine wpAnyHL_take (i := 0) (oi := ?_) (v := ?_) ?_ ?_ ?_ ?_ ?_ ?_ ?_ ?_ ?_ (Or.inl ⟨?_, ?_⟩) ?_ ?_
      rotate_left 2
      focus (simp only [List.getElem?_toArray, List.getElem?_cons_succ, List.getElem?_cons_zero]; exact rfl)
      iterate 7 focus kernel_rfl
      focus (exact fun _ _ _ h => h)
      focus rfl
      focus (intro wSw hSw; (have hSw := hSw.out); (refine run_load_row 81 (.tmp 1) ?_ p 0 ?_ _ _ hSw Tryz.underlying81 rfl (sz_inv _ _ _)) <;> rfl)
      focus assumption
      try simp only [Act.put, List.setIfInBounds_toArray, List.set_cons_zero, List.set_cons_succ]
      refine wpAnyHL_take (i := 1) (oi := ?_) (v := ?_) ?_ ?_ ?_ ?_ ?_ ?_ ?_ ?_ ?_ (Or.inl ⟨?_, ?_⟩) ?_ ?_
      rotate_left 2
      focus (simp only [List.getElem?_toArray, List.getElem?_cons_succ, List.getElem?_cons_zero]; exact rfl)
      iterate 7 focus kernel_rfl
      focus (exact fun _ _ _ h => h)
      focus rfl
      focus ((intro wSw hSw; (have hSw := hSw.out); (try dsimp only at hSw); go_simp) <;> with_reducible rfl)
      focus assumption
      try simp only [Act.put, List.setIfInBounds_toArray, List.set_cons_zero, List.set_cons_succ]
      refine wpAnyHL_done (by kernel_rfl) ?_
      try simp only [List.drop_succ_cons, List.drop_zero]
      go_wp2_with (refine wpList_store_row rfl 81 (.tmp 3) (.tmp 56) rfl (p + 1) 0 rfl _ [.slice a l.length cap, .int .i64 k, .int .i64 2] rfl HQ9.out.drew rfl (sz_inv _ _ _) (three_one _ _ _ _ _) ?_; intro WR hrR hcR; have HWR := Lib.hid hrR; have HCR := Lib.hid hcR; clear hrR hcR)
      refine bodyPost_ret (results_tmp_cell (t := 2) (p := 3) rfl _ _ (p + 1) 0 _ _ _ rfl rfl HWR.out Tryz.underlying81 rfl (sz_inv _ _ _)) rfl ?_
      have hkk : Keeps w WR := keeps_chg (keeps_drew HK9.out) HCR.out (by have := HP.out; omega)
      exact ⟨hkk, 0, _, k, 2, rfl, HK.out, .inr (.inr ⟨rfl, by decide, size_e4 HNUM.out (by decide) HNUM2.out (by rw [← HSL.out]; rfl) hbig⟩), rfl, by decide, by decide⟩
    focus
      go_upto_region 18 with (go_at_call 30; refine (HSIZE.out _).mono ?_; rintro r W10 ⟨v10, rfl, hO10⟩; obtain ⟨a10, c10, rfl⟩ := hO10.any; have HK10 := Lib.hid hO10.keeps; clear hO10)
      refine wp_region_head (S := fun W => Hid ((fun W => Row W q2 0 [.slice a l.length cap, .int .i64 k2, .int .i64 0]) W)) 3 (by kernel_rfl) (by kernel_rfl) ?_ (fun hHeld => ?_)
      focus exact Lib.hid (HNq2.out.keeps HK10.out).drew
      refine wpAnyHL_take (i := 0) (oi := ?_) (v := ?_) ?_ ?_ ?_ ?_ ?_ ?_ ?_ ?_ ?_ (Or.inl ⟨?_, ?_⟩) ?_ ?_
      rotate_left 2
      focus (simp only [List.getElem?_toArray, List.getElem?_cons_succ, List.getElem?_cons_zero]; exact rfl)
      iterate 7 focus kernel_rfl
      focus (exact fun _ _ _ h => h)
      focus rfl
      focus ((intro wSw hSw; (have hSw := hSw.out); (try dsimp only at hSw); go_simp) <;> with_reducible rfl)
      focus assumption
      try simp only [Act.put, List.setIfInBounds_toArray, List.set_cons_zero, List.set_cons_succ]
      refine wpAnyHL_take (i := 1) (oi := ?_) (v := ?_) ?_ ?_ ?_ ?_ ?_ ?_ ?_ ?_ ?_ (Or.inl ⟨?_, ?_⟩) ?_ ?_
      rotate_left 2
      focus (simp only [List.getElem?_toArray, List.getElem?_cons_succ, List.getElem?_cons_zero]; exact rfl)
      iterate 7 focus kernel_rfl
      focus (exact fun _ _ _ h => h)
      focus rfl
      focus (intro wSw hSw; (have hSw := hSw.out); (refine run_load_row 81 (.tmp 8) ?_ q2 0 ?_ _ _ hSw Tryz.underlying81 rfl (sz_inv _ _ _)) <;> rfl)
      focus assumption
      try simp only [Act.put, List.setIfInBounds_toArray, List.set_cons_zero, List.set_cons_succ]
      refine wpAnyHL_take (i := 2) (oi := ?_) (v := ?_) ?_ ?_ ?_ ?_ ?_ ?_ ?_ ?_ ?_ (Or.inl ⟨?_, ?_⟩) ?_ ?_
      rotate_left 2
      focus (simp only [List.getElem?_toArray, List.getElem?_cons_succ, List.getElem?_cons_zero]; exact rfl)
      iterate 7 focus kernel_rfl
      focus (exact fun _ _ _ h => h)
      focus rfl
      focus ((intro wSw hSw; (have hSw := hSw.out); (try dsimp only at hSw); go_simp) <;> with_reducible rfl)
      focus assumption
      try simp only [Act.put, List.setIfInBounds_toArray, List.set_cons_zero, List.set_cons_succ]
      refine wpAnyHL_done (by kernel_rfl) ?_
      try simp only [List.drop_succ_cons, List.drop_zero]
      go_wp2_with (refine wpList_store_row rfl 81 (.tmp 3) (.tmp 58) rfl (p + 1) 0 rfl _ [.slice a l.length cap, .int .i64 k2, .int .i64 0] rfl (HR2.out.keeps HK10.out).drew rfl (sz_inv _ _ _) (three_one _ _ _ _ _) ?_; intro WR hrR hcR; have HWR := Lib.hid hrR; have HCR := Lib.hid hcR; clear hrR hcR)
      refine bodyPost_ret (results_tmp_cell (t := 2) (p := 3) rfl _ _ (p + 1) 0 _ _ _ rfl rfl HWR.out Tryz.underlying81 rfl (sz_inv _ _ _)) rfl ?_
      have hkk : Keeps w WR := keeps_chg (keeps_drew (HKq2.out.trans HK10.out)) HCR.out (by have := HP.out; omega)
      exact ⟨hkk, x2, _, k2, 0, rfl, HKL2.out, .inr (.inl ⟨rfl, rfl, size_ok2 HNUM.out (by decide) HNUM2.out (by rw [← HSL.out]; rfl) (by omega)⟩), rfl, HY.out⟩
  focus
    obtain rfl := hc
    go_upto_region 10 with (first
      | (refine wpList_load_at rfl 81 (.tmp 5) rfl q 0 rfl _ _ HNq.out Tryz.underlying81 rfl (sz_inv _ _ _) ?_)
      | (go_at_call 72; refine (rnum_any S (.slice a l.length cap) l k1 0 4 (by omega) W5 (HB.out.keeps HKq.out) HKL.out).mono ?_; intro r W6 hpst; obtain ⟨hk6, x2, val6, k2, e2, rfl, hkl2, hrr2, rfl, y0, y9⟩ := hpst; have HK6 := Lib.hid hk6; have HKL2 := Lib.hid hkl2; have HRR2 := Lib.hid hrr2; have HY := Lib.hid (And.intro y0 y9); clear hk6 hkl2 hrr2 y0 y9; unfold inV))
    clear c0 c1 c2 f1 f2
    have hpq2 : p + 1 < W6.heap.size := by have h1 := (HNq.out).lt (by simp); have h2 := HK6.out.size; have h3 := HPQ.out; omega
    have HPQ2 := Lib.hid hpq2
    clear hpq2
    have hrN : Row (W6.alloc (.cells #[.slice a l.length cap, .int .i64 k2, .int .i64 e2] 81)) W6.heap.size 0 [.slice a l.length cap, .int .i64 k2, .int .i64 e2] := Row.new _ _ _ rfl
    have hkN : Keeps W6 (W6.alloc (.cells #[.slice a l.length cap, .int .i64 k2, .int .i64 e2] 81)) := keeps_alloc (Keeps.refl _) _
    have hr1' := (HR1.out.keeps HK6.out).keeps hkN
    have hr2' := (HR2.out.keeps HK6.out).keeps hkN
    have hkb := (HKq.out.trans HK6.out).trans hkN
    have HNq2 := Lib.hid hrN; have HKq2 := Lib.hid hkb; have HR1 := Lib.hid hr1'; have HR2 := Lib.hid hr2'
    clear hrN hkN hkb hr1' hr2'
    generalize (W6.alloc (.cells #[.slice a l.length cap, .int .i64 k2, .int .i64 e2] 81)) = W8 at *
    generalize W6.heap.size = q2 at *
    obtain ⟨⟨c0, c1, c2⟩, f1, f2⟩ := HNq2.out.cell3
    obtain ⟨⟨b0, b1, b2⟩, g1, g2⟩ := HR1.out.cell3
    by_cases he2 : e2 = 0
    rotate_left
    focus
      go_upto_region 17 with (fail)
      have hr9 : Row (W8.setCell ⟨p, 2, none⟩ (.int .i64 e2)) p 0 [.slice a l.length cap, .int .i64 k, .int .i64 e2] := by
        have := HR1.out.set 2 (by simp) (.int .i64 e2)
        simpa using this
      have hq9 : Row (W8.setCell ⟨p, 2, none⟩ (.int .i64 e2)) (p + 1) 0 [.slice none 0 0, .int .i64 0, .int .i64 0] := HR2.out.other (by show p + 1 ≠ p; omega) _
      have hk9 : Keeps w (W8.setCell ⟨p, 2, none⟩ (.int .i64 e2)) := keeps_chg HKq2.out (Chg.cell p 2 _) (by have := HP.out; omega)
      have HR9 := Lib.hid hr9; have HQ9 := Lib.hid hq9; have HK9 := Lib.hid hk9
      clear hr9 hq9 hk9 b0 b1 b2 g1 g2
      generalize W8.setCell ⟨p, 2, none⟩ (.int .i64 e2) = W9 at *
      refine wp_region_head (S := fun W => Hid ((fun W => Row W p 0 [.slice a l.length cap, .int .i64 k, .int .i64 e2]) W)) 2 (by kernel_rfl) (by kernel_rfl) ?_ (fun hHeld => ?_)
      focus exact Lib.hid HR9.out.drew
      refine wpAnyHL_take (i := 0) (oi := ?_) (v := ?_) ?_ ?_ ?_ ?_ ?_ ?_ ?_ ?_ ?_ (Or.inl ⟨?_, ?_⟩) ?_ ?_
      rotate_left 2
      focus (simp only [List.getElem?_toArray, List.getElem?_cons_succ, List.getElem?_cons_zero]; exact rfl)
      iterate 7 focus kernel_rfl
      focus (exact fun _ _ _ h => h)
      focus rfl
      focus (intro wSw hSw; (have hSw := hSw.out); (refine run_load_row 81 (.tmp 1) ?_ p 0 ?_ _ _ hSw Tryz.underlying81 rfl (sz_inv _ _ _)) <;> rfl)
      focus assumption
      try simp only [Act.put, List.setIfInBounds_toArray, List.set_cons_zero, List.set_cons_succ]
      refine wpAnyHL_take (i := 1) (oi := ?_) (v := ?_) ?_ ?_ ?_ ?_ ?_ ?_ ?_ ?_ ?_ (Or.inl ⟨?_, ?_⟩) ?_ ?_
      rotate_left 2
      focus (simp only [List.getElem?_toArray, List.getElem?_cons_succ, List.getElem?_cons_zero]; exact rfl)
      iterate 7 focus kernel_rfl
      focus (exact fun _ _ _ h => h)
      focus rfl
      focus ((intro wSw hSw; (have hSw := hSw.out); (try dsimp only at hSw); go_simp) <;> with_reducible rfl)
      focus assumption
      try simp only [Act.put, List.setIfInBounds_toArray, List.set_cons_zero, List.set_cons_succ]
      refine wpAnyHL_done (by kernel_rfl) ?_
      try simp only [List.drop_succ_cons, List.drop_zero]
      go_wp2_with (refine wpList_store_row rfl 81 (.tmp 3) (.tmp 56) rfl (p + 1) 0 rfl _ [.slice a l.length cap, .int .i64 k, .int .i64 e2] rfl HQ9.out.drew rfl (sz_inv _ _ _) (three_one _ _ _ _ _) ?_; intro WR hrR hcR; have HWR := Lib.hid hrR; have HCR := Lib.hid hcR; clear hrR hcR)
      refine bodyPost_ret (results_tmp_cell (t := 2) (p := 3) rfl _ _ (p + 1) 0 _ _ _ rfl rfl HWR.out Tryz.underlying81 rfl (sz_inv _ _ _)) rfl ?_
      have hkk : Keeps w WR := keeps_chg (keeps_drew HK9.out) HCR.out (by have := HP.out; omega)
      have herr : rdNum 4 (l.drop k1) = .error e2 := by
        rcases HRR2.out with ⟨h, _⟩ | ⟨_, h, _⟩ | ⟨_, _, h⟩
        · exact absurd rfl h
        · exact absurd h he2
        · exact h
      exact ⟨hkk, 0, _, k, e2, rfl, HK.out, .inr (.inr ⟨rfl, he2, size_e2 HNUM.out (by decide) herr⟩), rfl, by decide, by decide⟩
    subst he2
    have HNUM2 := Lib.hid (HRR2.out.zero).2
    obtain ⟨sl, hsl⟩ : ∃ sl, sl = (sizeB x2).length := ⟨_, rfl⟩
    have HSIZE := Lib.hid (show ∀ W, Calls Tryz.prog 30 #[.int .u64 x2] W (fun e w' => ∃ v, e = .returned v ∧ Own W w' v sl (sizeB x2)) from fun W => by rw [hsl]; exact size_any x2 HY.out.1 HY.out.2 W)
    have HSL := Lib.hid hsl
    clear hsl
    by_cases hs : sl = 4 + 1
    rotate_left
    focus
      have hs2 : ¬ (sl : Int) = 4 + 1 := by omega
      go_upto_region 17 with (go_at_call 30; refine (HSIZE.out _).mono ?_; rintro r W10 ⟨v10, rfl, hO10⟩; obtain ⟨a10, c10, rfl⟩ := hO10.any; have HK10 := Lib.hid hO10.keeps; obtain ⟨⟨d0, d1, d2⟩, h1, h2⟩ := (HR1.out.keeps hO10.keeps).cell3; clear hO10)
      have hr9 : Row (W10.setCell ⟨p, 2, none⟩ (.int .i64 3)) p 0 [.slice a l.length cap, .int .i64 k, .int .i64 3] := by
        have := (HR1.out.keeps HK10.out).set 2 (by simp) (.int .i64 3)
        simpa using this
      have hq9 : Row (W10.setCell ⟨p, 2, none⟩ (.int .i64 3)) (p + 1) 0 [.slice none 0 0, .int .i64 0, .int .i64 0] := (HR2.out.keeps HK10.out).other (by show p + 1 ≠ p; omega) _
      have hk9 : Keeps w (W10.setCell ⟨p, 2, none⟩ (.int .i64 3)) := keeps_chg (HKq2.out.trans HK10.out) (Chg.cell p 2 _) (by have := HP.out; omega)
      have HR9 := Lib.hid hr9; have HQ9 := Lib.hid hq9; have HK9 := Lib.hid hk9
      clear hr9 hq9 hk9 d0 d1 d2 h1 h2
      generalize W10.setCell ⟨p, 2, none⟩ (.int .i64 3) = W9 at *
      refine wp_region_head (S := fun W => Hid ((fun W => Row W p 0 [.slice a l.length cap, .int .i64 k, .int .i64 3]) W)) 2 (by kernel_rfl) (by kernel_rfl) ?_ (fun hHeld => ?_)
      focus exact Lib.hid HR9.out.drew
      refine wpAnyHL_take (i := 0) (oi := ?_) (v := ?_) ?_ ?_ ?_ ?_ ?_ ?_ ?_ ?_ ?_ (Or.inl ⟨?_, ?_⟩) ?_ ?_
      rotate_left 2
      focus (simp only [List.getElem?_toArray, List.getElem?_cons_succ, List.getElem?_cons_zero]; exact rfl)
      iterate 7 focus kernel_rfl
      focus (exact fun _ _ _ h => h)
      focus rfl
      focus (intro wSw hSw; (have hSw := hSw.out); (refine run_load_row 81 (.tmp 1) ?_ p 0 ?_ _ _ hSw Tryz.underlying81 rfl (sz_inv _ _ _)) <;> rfl)
      focus assumption
      try simp only [Act.put, List.setIfInBounds_toArray, List.set_cons_zero, List.set_cons_succ]
      refine wpAnyHL_take (i := 1) (oi := ?_) (v := ?_) ?_ ?_ ?_ ?_ ?_ ?_ ?_ ?_ ?_ (Or.inl ⟨?_, ?_⟩) ?_ ?_
      rotate_left 2
      focus (simp only [List.getElem?_toArray, List.getElem?_cons_succ, List.getElem?_cons_zero]; exact rfl)
      iterate 7 focus kernel_rfl
      focus (exact fun _ _ _ h => h)
      focus rfl
      focus ((intro wSw hSw; (have hSw := hSw.out); (try dsimp only at hSw); go_simp) <;> with_reducible rfl)
      focus assumption
      try simp only [Act.put, List.setIfInBounds_toArray, List.set_cons_zero, List.set_cons_succ]
      refine wpAnyHL_done (by kernel_rfl) ?_
      try simp only [List.drop_succ_cons, List.drop_zero]
      go_wp2_with (refine wpList_store_row rfl 81 (.tmp 3) (.tmp 56) rfl (p + 1) 0 rfl _ [.slice a l.length cap, .int .i64 k, .int .i64 3] rfl HQ9.out.drew rfl (sz_inv _ _ _) (three_one _ _ _ _ _) ?_; intro WR hrR hcR; have HWR := Lib.hid hrR; have HCR := Lib.hid hcR; clear hrR hcR)
      refine bodyPost_ret (results_tmp_cell (t := 2) (p := 3) rfl _ _ (p + 1) 0 _ _ _ rfl rfl HWR.out Tryz.underlying81 rfl (sz_inv _ _ _)) rfl ?_
      have hkk : Keeps w WR := keeps_chg (keeps_drew HK9.out) HCR.out (by have := HP.out; omega)
      exact ⟨hkk, 0, _, k, 3, rfl, HK.out, .inr (.inr ⟨rfl, by decide, size_e3 HNUM.out (by decide) HNUM2.out (fun h => hs (by rw [HSL.out]; exact h))⟩), rfl, by decide, by decide⟩
    subst hs
    by_cases hbig : (33554432 : Int) < x2
    focus
      go_upto_region 17 with (go_at_call 30; refine (HSIZE.out _).mono ?_; rintro r W10 ⟨v10, rfl, hO10⟩; obtain ⟨a10, c10, rfl⟩ := hO10.any; have HK10 := Lib.hid hO10.keeps; obtain ⟨⟨d0, d1, d2⟩, h1, h2⟩ := (HR1.out.keeps hO10.keeps).cell3; clear hO10)
      have hr9 : Row (W10.setCell ⟨p, 2, none⟩ (.int .i64 2)) p 0 [.slice a l.length cap, .int .i64 k, .int .i64 2] := by
        have := (HR1.out.keeps HK10.out).set 2 (by simp) (.int .i64 2)
        simpa using this
      have hq9 : Row (W10.setCell ⟨p, 2, none⟩ (.int .i64 2)) (p + 1) 0 [.slice none 0 0, .int .i64 0, .int .i64 0] := (HR2.out.keeps HK10.out).other (by show p + 1 ≠ p; omega) _
      have hk9 : Keeps w (W10.setCell ⟨p, 2, none⟩ (.int .i64 2)) := keeps_chg (HKq2.out.trans HK10.out) (Chg.cell p 2 _) (by have := HP.out; omega)
      have HR9 := Lib.hid hr9; have HQ9 := Lib.hid hq9; have HK9 := Lib.hid hk9
      clear hr9 hq9 hk9 d0 d1 d2 h1 h2
      generalize W10.setCell ⟨p, 2, none⟩ (.int .i64 2) = W9 at *
      refine wp_region_head (S := fun W => Hid ((fun W => Row W p 0 [.slice a l.length cap, .int .i64 k, .int .i64 2]) W)) 2 (by kernel_rfl) (by kernel_rfl) ?_ (fun hHeld => ?_)
      focus exact Lib.hid HR9.out.drew
      refine wpAnyHL_take (i := 0) (oi := ?_) (v := ?_) ?_ ?_ ?_ ?_ ?_ ?_ ?_ ?_ ?_ (Or.inl ⟨?_, ?_⟩) ?_ ?_
      rotate_left 2
      focus (simp only [List.getElem?_toArray, List.getElem?_cons_succ, List.getElem?_cons_zero]; exact rfl)
      iterate 7 focus kernel_rfl
      focus (exact fun _ _ _ h => h)
      focus rfl
      focus (intro wSw hSw; (have hSw := hSw.out); (refine run_load_row 81 (.tmp 1) ?_ p 0 ?_ _ _ hSw Tryz.underlying81 rfl (sz_inv _ _ _)) <;> rfl)
      focus assumption
      try simp only [Act.put, List.setIfInBounds_toArray, List.set_cons_zero, List.set_cons_succ]
      refine wpAnyHL_take (i := 1) (oi := ?_) (v := ?_) ?_ ?_ ?_ ?_ ?_ ?_ ?_ ?_ ?_ (Or.inl ⟨?_, ?_⟩) ?_ ?_
      rotate_left 2
      focus (simp only [List.getElem?_toArray, List.getElem?_cons_succ, List.getElem?_cons_zero]; exact rfl)
      iterate 7 focus kernel_rfl
      focus (exact fun _ _ _ h => h)
      focus rfl
      focus ((intro wSw hSw; (have hSw := hSw.out); (try dsimp only at hSw); go_simp) <;> with_reducible rfl)
      focus assumption
      try simp only [Act.put, List.setIfInBounds_toArray, List.set_cons_zero, List.set_cons_succ]
      refine wpAnyHL_done (by kernel_rfl) ?_
      try simp only [List.drop_succ_cons, List.drop_zero]
      go_wp2_with (refine wpList_store_row rfl 81 (.tmp 3) (.tmp 56) rfl (p + 1) 0 rfl _ [.slice a l.length cap, .int .i64 k, .int .i64 2] rfl HQ9.out.drew rfl (sz_inv _ _ _) (three_one _ _ _ _ _) ?_; intro WR hrR hcR; have HWR := Lib.hid hrR; have HCR := Lib.hid hcR; clear hrR hcR)
      refine bodyPost_ret (results_tmp_cell (t := 2) (p := 3) rfl _ _ (p + 1) 0 _ _ _ rfl rfl HWR.out Tryz.underlying81 rfl (sz_inv _ _ _)) rfl ?_
      have hkk : Keeps w WR := keeps_chg (keeps_drew HK9.out) HCR.out (by have := HP.out; omega)
      exact ⟨hkk, 0, _, k, 2, rfl, HK.out, .inr (.inr ⟨rfl, by decide, size_e4 HNUM.out (by decide) HNUM2.out (by rw [← HSL.out]; rfl) hbig⟩), rfl, by decide, by decide⟩
    focus
      go_upto_region 18 with (go_at_call 30; refine (HSIZE.out _).mono ?_; rintro r W10 ⟨v10, rfl, hO10⟩; obtain ⟨a10, c10, rfl⟩ := hO10.any; have HK10 := Lib.hid hO10.keeps; clear hO10)
      refine wp_region_head (S := fun W => Hid ((fun W => Row W q2 0 [.slice a l.length cap, .int .i64 k2, .int .i64 0]) W)) 3 (by kernel_rfl) (by kernel_rfl) ?_ (fun hHeld => ?_)
      focus exact Lib.hid (HNq2.out.keeps HK10.out).drew
      refine wpAnyHL_take (i := 0) (oi := ?_) (v := ?_) ?_ ?_ ?_ ?_ ?_ ?_ ?_ ?_ ?_ (Or.inl ⟨?_, ?_⟩) ?_ ?_
      rotate_left 2
      focus (simp only [List.getElem?_toArray, List.getElem?_cons_succ, List.getElem?_cons_zero]; exact rfl)
      iterate 7 focus kernel_rfl
      focus (exact fun _ _ _ h => h)
      focus rfl
      focus ((intro wSw hSw; (have hSw := hSw.out); (try dsimp only at hSw); go_simp) <;> with_reducible rfl)
      focus assumption
      try simp only [Act.put, List.setIfInBounds_toArray, List.set_cons_zero, List.set_cons_succ]
      refine wpAnyHL_take (i := 1) (oi := ?_) (v := ?_) ?_ ?_ ?_ ?_ ?_ ?_ ?_ ?_ ?_ (Or.inl ⟨?_, ?_⟩) ?_ ?_
      rotate_left 2
      focus (simp only [List.getElem?_toArray, List.getElem?_cons_succ, List.getElem?_cons_zero]; exact rfl)
      iterate 7 focus kernel_rfl
      focus (exact fun _ _ _ h => h)
      focus rfl
      focus (intro wSw hSw; (have hSw := hSw.out); (refine run_load_row 81 (.tmp 8) ?_ q2 0 ?_ _ _ hSw Tryz.underlying81 rfl (sz_inv _ _ _)) <;> rfl)
      focus assumption
      try simp only [Act.put, List.setIfInBounds_toArray, List.set_cons_zero, List.set_cons_succ]
      refine wpAnyHL_take (i := 2) (oi := ?_) (v := ?_) ?_ ?_ ?_ ?_ ?_ ?_ ?_ ?_ ?_ (Or.inl ⟨?_, ?_⟩) ?_ ?_
      rotate_left 2
      focus (simp only [List.getElem?_toArray, List.getElem?_cons_succ, List.getElem?_cons_zero]; exact rfl)
      iterate 7 focus kernel_rfl
      focus (exact fun _ _ _ h => h)
      focus rfl
      focus ((intro wSw hSw; (have hSw := hSw.out); (try dsimp only at hSw); go_simp) <;> with_reducible rfl)
      focus assumption
      try simp only [Act.put, List.setIfInBounds_toArray, List.set_cons_zero, List.set_cons_succ]
      refine wpAnyHL_done (by kernel_rfl) ?_
      try simp only [List.drop_succ_cons, List.drop_zero]
      go_wp2_with (refine wpList_store_row rfl 81 (.tmp 3) (.tmp 58) rfl (p + 1) 0 rfl _ [.slice a l.length cap, .int .i64 k2, .int .i64 0] rfl (HR2.out.keeps HK10.out).drew rfl (sz_inv _ _ _) (three_one _ _ _ _ _) ?_; intro WR hrR hcR; have HWR := Lib.hid hrR; have HCR := Lib.hid hcR; clear hrR hcR)
      refine bodyPost_ret (results_tmp_cell (t := 2) (p := 3) rfl _ _ (p + 1) 0 _ _ _ rfl rfl HWR.out Tryz.underlying81 rfl (sz_inv _ _ _)) rfl ?_
      have hkk : Keeps w WR := keeps_chg (keeps_drew (HKq2.out.trans HK10.out)) HCR.out (by have := HP.out; omega)
      exact ⟨hkk, x2, _, k2, 0, rfl, HKL2.out, .inr (.inl ⟨rfl, rfl, size_ok2 HNUM.out (by decide) HNUM2.out (by rw [← HSL.out]; rfl) (by omega)⟩), rfl, HY.out⟩
  focus
    obtain rfl := hc
    go_upto_region 10 with (first
      | (refine wpList_load_at rfl 81 (.tmp 5) rfl q 0 rfl _ _ HNq.out Tryz.underlying81 rfl (sz_inv _ _ _) ?_)
      | (go_at_call 72; refine (rnum_any S (.slice a l.length cap) l k1 0 8 (by omega) W5 (HB.out.keeps HKq.out) HKL.out).mono ?_; intro r W6 hpst; obtain ⟨hk6, x2, val6, k2, e2, rfl, hkl2, hrr2, rfl, y0, y9⟩ := hpst; have HK6 := Lib.hid hk6; have HKL2 := Lib.hid hkl2; have HRR2 := Lib.hid hrr2; have HY := Lib.hid (And.intro y0 y9); clear hk6 hkl2 hrr2 y0 y9; unfold inV))
    clear c0 c1 c2 f1 f2
    have hpq2 : p + 1 < W6.heap.size := by have h1 := (HNq.out).lt (by simp); have h2 := HK6.out.size; have h3 := HPQ.out; omega
    have HPQ2 := Lib.hid hpq2
    clear hpq2
    have hrN : Row (W6.alloc (.cells #[.slice a l.length cap, .int .i64 k2, .int .i64 e2] 81)) W6.heap.size 0 [.slice a l.length cap, .int .i64 k2, .int .i64 e2] := Row.new _ _ _ rfl
    have hkN : Keeps W6 (W6.alloc (.cells #[.slice a l.length cap, .int .i64 k2, .int .i64 e2] 81)) := keeps_alloc (Keeps.refl _) _
    have hr1' := (HR1.out.keeps HK6.out).keeps hkN
    have hr2' := (HR2.out.keeps HK6.out).keeps hkN
    have hkb := (HKq.out.trans HK6.out).trans hkN
    have HNq2 := Lib.hid hrN; have HKq2 := Lib.hid hkb; have HR1 := Lib.hid hr1'; have HR2 := Lib.hid hr2'
    clear hrN hkN hkb hr1' hr2'
    generalize (W6.alloc (.cells #[.slice a l.length cap, .int .i64 k2, .int .i64 e2] 81)) = W8 at *
    generalize W6.heap.size = q2 at *
    obtain ⟨⟨c0, c1, c2⟩, f1, f2⟩ := HNq2.out.cell3
    obtain ⟨⟨b0, b1, b2⟩, g1, g2⟩ := HR1.out.cell3
    by_cases he2 : e2 = 0
    rotate_left
    focus
      go_upto_region 17 with (fail)
      have hr9 : Row (W8.setCell ⟨p, 2, none⟩ (.int .i64 e2)) p 0 [.slice a l.length cap, .int .i64 k, .int .i64 e2] := by
        have := HR1.out.set 2 (by simp) (.int .i64 e2)
        simpa using this
      have hq9 : Row (W8.setCell ⟨p, 2, none⟩ (.int .i64 e2)) (p + 1) 0 [.slice none 0 0, .int .i64 0, .int .i64 0] := HR2.out.other (by show p + 1 ≠ p; omega) _
      have hk9 : Keeps w (W8.setCell ⟨p, 2, none⟩ (.int .i64 e2)) := keeps_chg HKq2.out (Chg.cell p 2 _) (by have := HP.out; omega)
      have HR9 := Lib.hid hr9; have HQ9 := Lib.hid hq9; have HK9 := Lib.hid hk9
      clear hr9 hq9 hk9 b0 b1 b2 g1 g2
      generalize W8.setCell ⟨p, 2, none⟩ (.int .i64 e2) = W9 at *
      refine wp_region_head (S := fun W => Hid ((fun W => Row W p 0 [.slice a l.length cap, .int .i64 k, .int .i64 e2]) W)) 2 (by kernel_rfl) (by kernel_rfl) ?_ (fun hHeld => ?_)
      focus exact Lib.hid HR9.out.drew
      refine wpAnyHL_take (i := 0) (oi := ?_) (v := ?_) ?_ ?_ ?_ ?_ ?_ ?_ ?_ ?_ ?_ (Or.inl ⟨?_, ?_⟩) ?_ ?_
      rotate_left 2
      focus (simp only [List.getElem?_toArray, List.getElem?_cons_succ, List.getElem?_cons_zero]; exact rfl)
      iterate 7 focus kernel_rfl
      focus (exact fun _ _ _ h => h)
      focus rfl
      focus (intro wSw hSw; (have hSw := hSw.out); (refine run_load_row 81 (.tmp 1) ?_ p 0 ?_ _ _ hSw Tryz.underlying81 rfl (sz_inv _ _ _)) <;> rfl)
      focus assumption
      try simp only [Act.put, List.setIfInBounds_toArray, List.set_cons_zero, List.set_cons_succ]
      refine wpAnyHL_take (i := 1) (oi := ?_) (v := ?_) ?_ ?_ ?_ ?_ ?_ ?_ ?_ ?_ ?_ (Or.inl ⟨?_, ?_⟩) ?_ ?_
      rotate_left 2
      focus (simp only [List.getElem?_toArray, List.getElem?_cons_succ, List.getElem?_cons_zero]; exact rfl)
      iterate 7 focus kernel_rfl
      focus (exact fun _ _ _ h => h)
      focus rfl
      focus ((intro wSw hSw; (have hSw := hSw.out); (try dsimp only at hSw); go_simp) <;> with_reducible rfl)
      focus assumption
      try simp only [Act.put, List.setIfInBounds_toArray, List.set_cons_zero, List.set_cons_succ]
      refine wpAnyHL_done (by kernel_rfl) ?_
      try simp only [List.drop_succ_cons, List.drop_zero]
      go_wp2_with (refine wpList_store_row rfl 81 (.tmp 3) (.tmp 56) rfl (p + 1) 0 rfl _ [.slice a l.length cap, .int .i64 k, .int .i64 e2] rfl HQ9.out.drew rfl (sz_inv _ _ _) (three_one _ _ _ _ _) ?_; intro WR hrR hcR; have HWR := Lib.hid hrR; have HCR := Lib.hid hcR; clear hrR hcR)
      refine bodyPost_ret (results_tmp_cell (t := 2) (p := 3) rfl _ _ (p + 1) 0 _ _ _ rfl rfl HWR.out Tryz.underlying81 rfl (sz_inv _ _ _)) rfl ?_
      have hkk : Keeps w WR := keeps_chg (keeps_drew HK9.out) HCR.out (by have := HP.out; omega)
      have herr : rdNum 8 (l.drop k1) = .error e2 := by
        rcases HRR2.out with ⟨h, _⟩ | ⟨_, h, _⟩ | ⟨_, _, h⟩
        · exact absurd rfl h
        · exact absurd h he2
        · exact h
      exact ⟨hkk, 0, _, k, e2, rfl, HK.out, .inr (.inr ⟨rfl, he2, size_e2 HNUM.out (by decide) herr⟩), rfl, by decide, by decide⟩
    subst he2
    have HNUM2 := Lib.hid (HRR2.out.zero).2
    obtain ⟨sl, hsl⟩ : ∃ sl, sl = (sizeB x2).length := ⟨_, rfl⟩
    have HSIZE := Lib.hid (show ∀ W, Calls Tryz.prog 30 #[.int .u64 x2] W (fun e w' => ∃ v, e = .returned v ∧ Own W w' v sl (sizeB x2)) from fun W => by rw [hsl]; exact size_any x2 HY.out.1 HY.out.2 W)
    have HSL := Lib.hid hsl
    clear hsl
    by_cases hs : sl = 8 + 1
    rotate_left
    focus
      have hs2 : ¬ (sl : Int) = 8 + 1 := by omega
      go_upto_region 17 with (go_at_call 30; refine (HSIZE.out _).mono ?_; rintro r W10 ⟨v10, rfl, hO10⟩; obtain ⟨a10, c10, rfl⟩ := hO10.any; have HK10 := Lib.hid hO10.keeps; obtain ⟨⟨d0, d1, d2⟩, h1, h2⟩ := (HR1.out.keeps hO10.keeps).cell3; clear hO10)
      have hr9 : Row (W10.setCell ⟨p, 2, none⟩ (.int .i64 3)) p 0 [.slice a l.length cap, .int .i64 k, .int .i64 3] := by
        have := (HR1.out.keeps HK10.out).set 2 (by simp) (.int .i64 3)
        simpa using this
      have hq9 : Row (W10.setCell ⟨p, 2, none⟩ (.int .i64 3)) (p + 1) 0 [.slice none 0 0, .int .i64 0, .int .i64 0] := (HR2.out.keeps HK10.out).other (by show p + 1 ≠ p; omega) _
      have hk9 : Keeps w (W10.setCell ⟨p, 2, none⟩ (.int .i64 3)) := keeps_chg (HKq2.out.trans HK10.out) (Chg.cell p 2 _) (by have := HP.out; omega)
      have HR9 := Lib.hid hr9; have HQ9 := Lib.hid hq9; have HK9 := Lib.hid hk9
      clear hr9 hq9 hk9 d0 d1 d2 h1 h2
      generalize W10.setCell ⟨p, 2, none⟩ (.int .i64 3) = W9 at *
      refine wp_region_head (S := fun W => Hid ((fun W => Row W p 0 [.slice a l.length cap, .int .i64 k, .int .i64 3]) W)) 2 (by kernel_rfl) (by kernel_rfl) ?_ (fun hHeld => ?_)
      focus exact Lib.hid HR9.out.drew
      refine wpAnyHL_take (i := 0) (oi := ?_) (v := ?_) ?_ ?_ ?_ ?_ ?_ ?_ ?_ ?_ ?_ (Or.inl ⟨?_, ?_⟩) ?_ ?_
      rotate_left 2
      focus (simp only [List.getElem?_toArray, List.getElem?_cons_succ, List.getElem?_cons_zero]; exact rfl)
      iterate 7 focus kernel_rfl
      focus (exact fun _ _ _ h => h)
      focus rfl
      focus (intro wSw hSw; (have hSw := hSw.out); (refine run_load_row 81 (.tmp 1) ?_ p 0 ?_ _ _ hSw Tryz.underlying81 rfl (sz_inv _ _ _)) <;> rfl)
      focus assumption
      try simp only [Act.put, List.setIfInBounds_toArray, List.set_cons_zero, List.set_cons_succ]
      refine wpAnyHL_take (i := 1) (oi := ?_) (v := ?_) ?_ ?_ ?_ ?_ ?_ ?_ ?_ ?_ ?_ (Or.inl ⟨?_, ?_⟩) ?_ ?_
      rotate_left 2
      focus (simp only [List.getElem?_toArray, List.getElem?_cons_succ, List.getElem?_cons_zero]; exact rfl)
      iterate 7 focus kernel_rfl
      focus (exact fun _ _ _ h => h)
      focus rfl
      focus ((intro wSw hSw; (have hSw := hSw.out); (try dsimp only at hSw); go_simp) <;> with_reducible rfl)
      focus assumption
      try simp only [Act.put, List.setIfInBounds_toArray, List.set_cons_zero, List.set_cons_succ]
      refine wpAnyHL_done (by kernel_rfl) ?_
      try simp only [List.drop_succ_cons, List.drop_zero]
      go_wp2_with (refine wpList_store_row rfl 81 (.tmp 3) (.tmp 56) rfl (p + 1) 0 rfl _ [.slice a l.length cap, .int .i64 k, .int .i64 3] rfl HQ9.out.drew rfl (sz_inv _ _ _) (three_one _ _ _ _ _) ?_; intro WR hrR hcR; have HWR := Lib.hid hrR; have HCR := Lib.hid hcR; clear hrR hcR)
      refine bodyPost_ret (results_tmp_cell (t := 2) (p := 3) rfl _ _ (p + 1) 0 _ _ _ rfl rfl HWR.out Tryz.underlying81 rfl (sz_inv _ _ _)) rfl ?_
      have hkk : Keeps w WR := keeps_chg (keeps_drew HK9.out) HCR.out (by have := HP.out; omega)
      exact ⟨hkk, 0, _, k, 3, rfl, HK.out, .inr (.inr ⟨rfl, by decide, size_e3 HNUM.out (by decide) HNUM2.out (fun h => hs (by rw [HSL.out]; exact h))⟩), rfl, by decide, by decide⟩
    subst hs
    by_cases hbig : (33554432 : Int) < x2
    focus
      go_upto_region 17 with (go_at_call 30; refine (HSIZE.out _).mono ?_; rintro r W10 ⟨v10, rfl, hO10⟩; obtain ⟨a10, c10, rfl⟩ := hO10.any; have HK10 := Lib.hid hO10.keeps; obtain ⟨⟨d0, d1, d2⟩, h1, h2⟩ := (HR1.out.keeps hO10.keeps).cell3; clear hO10)
      have hr9 : Row (W10.setCell ⟨p, 2, none⟩ (.int .i64 2)) p 0 [.slice a l.length cap, .int .i64 k, .int .i64 2] := by
        have := (HR1.out.keeps HK10.out).set 2 (by simp) (.int .i64 2)
        simpa using this
      have hq9 : Row (W10.setCell ⟨p, 2, none⟩ (.int .i64 2)) (p + 1) 0 [.slice none 0 0, .int .i64 0, .int .i64 0] := (HR2.out.keeps HK10.out).other (by show p + 1 ≠ p; omega) _
      have hk9 : Keeps w (W10.setCell ⟨p, 2, none⟩ (.int .i64 2)) := keeps_chg (HKq2.out.trans HK10.out) (Chg.cell p 2 _) (by have := HP.out; omega)
      have HR9 := Lib.hid hr9; have HQ9 := Lib.hid hq9; have HK9 := Lib.hid hk9
      clear hr9 hq9 hk9 d0 d1 d2 h1 h2
      generalize W10.setCell ⟨p, 2, none⟩ (.int .i64 2) = W9 at *
      refine wp_region_head (S := fun W => Hid ((fun W => Row W p 0 [.slice a l.length cap, .int .i64 k, .int .i64 2]) W)) 2 (by kernel_rfl) (by kernel_rfl) ?_ (fun hHeld => ?_)
      focus exact Lib.hid HR9.out.drew
      refine wpAnyHL_take (i := 0) (oi := ?_) (v := ?_) ?_ ?_ ?_ ?_ ?_ ?_ ?_ ?_ ?_ (Or.inl ⟨?_, ?_⟩) ?_ ?_
      rotate_left 2
      focus (simp only [List.getElem?_toArray, List.getElem?_cons_succ, List.getElem?_cons_zero]; exact rfl)
      iterate 7 focus kernel_rfl
      focus (exact fun _ _ _ h => h)
      focus rfl
      focus (intro wSw hSw; (have hSw := hSw.out); (refine run_load_row 81 (.tmp 1) ?_ p 0 ?_ _ _ hSw Tryz.underlying81 rfl (sz_inv _ _ _)) <;> rfl)
      focus assumption
      try simp only [Act.put, List.setIfInBounds_toArray, List.set_cons_zero, List.set_cons_succ]
      refine wpAnyHL_take (i := 1) (oi := ?_) (v := ?_) ?_ ?_ ?_ ?_ ?_ ?_ ?_ ?_ ?_ (Or.inl ⟨?_, ?_⟩) ?_ ?_
      rotate_left 2
      focus (simp only [List.getElem?_toArray, List.getElem?_cons_succ, List.getElem?_cons_zero]; exact rfl)
      iterate 7 focus kernel_rfl
      focus (exact fun _ _ _ h => h)
      focus rfl
      focus ((intro wSw hSw; (have hSw := hSw.out); (try dsimp only at hSw); go_simp) <;> with_reducible rfl)
      focus assumption
      try simp only [Act.put, List.setIfInBounds_toArray, List.set_cons_zero, List.set_cons_succ]
      refine wpAnyHL_done (by kernel_rfl) ?_
      try simp only [List.drop_succ_cons, List.drop_zero]
      go_wp2_with (refine wpList_store_row rfl 81 (.tmp 3) (.tmp 56) rfl (p + 1) 0 rfl _ [.slice a l.length cap, .int .i64 k, .int .i64 2] rfl HQ9.out.drew rfl (sz_inv _ _ _) (three_one _ _ _ _ _) ?_; intro WR hrR hcR; have HWR := Lib.hid hrR; have HCR := Lib.hid hcR; clear hrR hcR)
      refine bodyPost_ret (results_tmp_cell (t := 2) (p := 3) rfl _ _ (p + 1) 0 _ _ _ rfl rfl HWR.out Tryz.underlying81 rfl (sz_inv _ _ _)) rfl ?_
      have hkk : Keeps w WR := keeps_chg (keeps_drew HK9.out) HCR.out (by have := HP.out; omega)
      exact ⟨hkk, 0, _, k, 2, rfl, HK.out, .inr (.inr ⟨rfl, by decide, size_e4 HNUM.out (by decide) HNUM2.out (by rw [← HSL.out]; rfl) hbig⟩), rfl, by decide, by decide⟩
    focus
      go_upto_region 18 with (go_at_call 30; refine (HSIZE.out _).mono ?_; rintro r W10 ⟨v10, rfl, hO10⟩; obtain ⟨a10, c10, rfl⟩ := hO10.any; have HK10 := Lib.hid hO10.keeps; clear hO10)
      refine wp_region_head (S := fun W => Hid ((fun W => Row W q2 0 [.slice a l.length cap, .int .i64 k2, .int .i64 0]) W)) 3 (by kernel_rfl) (by kernel_rfl) ?_ (fun hHeld => ?_)
      focus exact Lib.hid (HNq2.out.keeps HK10.out).drew
      refine wpAnyHL_take (i := 0) (oi := ?_) (v := ?_) ?_ ?_ ?_ ?_ ?_ ?_ ?_ ?_ ?_ (Or.inl ⟨?_, ?_⟩) ?_ ?_
      rotate_left 2
      focus (simp only [List.getElem?_toArray, List.getElem?_cons_succ, List.getElem?_cons_zero]; exact rfl)
      iterate 7 focus kernel_rfl
      focus (exact fun _ _ _ h => h)
      focus rfl
      focus ((intro wSw hSw; (have hSw := hSw.out); (try dsimp only at hSw); go_simp) <;> with_reducible rfl)
      focus assumption
      try simp only [Act.put, List.setIfInBounds_toArray, List.set_cons_zero, List.set_cons_succ]
      refine wpAnyHL_take (i := 1) (oi := ?_) (v := ?_) ?_ ?_ ?_ ?_ ?_ ?_ ?_ ?_ ?_ (Or.inl ⟨?_, ?_⟩) ?_ ?_
      rotate_left 2
      focus (simp only [List.getElem?_toArray, List.getElem?_cons_succ, List.getElem?_cons_zero]; exact rfl)
      iterate 7 focus kernel_rfl
      focus (exact fun _ _ _ h => h)
      focus rfl
      focus (intro wSw hSw; (have hSw := hSw.out); (refine run_load_row 81 (.tmp 8) ?_ q2 0 ?_ _ _ hSw Tryz.underlying81 rfl (sz_inv _ _ _)) <;> rfl)
      focus assumption
      try simp only [Act.put, List.setIfInBounds_toArray, List.set_cons_zero, List.set_cons_succ]
      refine wpAnyHL_take (i := 2) (oi := ?_) (v := ?_) ?_ ?_ ?_ ?_ ?_ ?_ ?_ ?_ ?_ (Or.inl ⟨?_, ?_⟩) ?_ ?_
      rotate_left 2
      focus (simp only [List.getElem?_toArray, List.getElem?_cons_succ, List.getElem?_cons_zero]; exact rfl)
      iterate 7 focus kernel_rfl
      focus (exact fun _ _ _ h => h)
      focus rfl
      focus ((intro wSw hSw; (have hSw := hSw.out); (try dsimp only at hSw); go_simp) <;> with_reducible rfl)
      focus assumption
      try simp only [Act.put, List.setIfInBounds_toArray, List.set_cons_zero, List.set_cons_succ]
      refine wpAnyHL_done (by kernel_rfl) ?_
      try simp only [List.drop_succ_cons, List.drop_zero]
      go_wp2_with (refine wpList_store_row rfl 81 (.tmp 3) (.tmp 58) rfl (p + 1) 0 rfl _ [.slice a l.length cap, .int .i64 k2, .int .i64 0] rfl (HR2.out.keeps HK10.out).drew rfl (sz_inv _ _ _) (three_one _ _ _ _ _) ?_; intro WR hrR hcR; have HWR := Lib.hid hrR; have HCR := Lib.hid hcR; clear hrR hcR)
      refine bodyPost_ret (results_tmp_cell (t := 2) (p := 3) rfl _ _ (p + 1) 0 _ _ _ rfl rfl HWR.out Tryz.underlying81 rfl (sz_inv _ _ _)) rfl ?_
      have hkk : Keeps w WR := keeps_chg (keeps_drew (HKq2.out.trans HK10.out)) HCR.out (by have := HP.out; omega)
      exact ⟨hkk, x2, _, k2, 0, rfl, HKL2.out, .inr (.inl ⟨rfl, rfl, size_ok2 HNUM.out (by decide) HNUM2.out (by rw [← HSL.out]; rfl) (by omega)⟩), rfl, HY.out⟩
end Go.Proofs.YtcodpdpeklammaaGreatDoor
