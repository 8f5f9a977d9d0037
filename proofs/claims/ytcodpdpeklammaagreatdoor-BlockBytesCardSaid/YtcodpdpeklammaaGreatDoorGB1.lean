/- The reference's List, count. (Printed by gref01.py.) -/
import Derived.Test.YtcodpdpeklammaaGreatDoorGB0
namespace Go.Proofs.YtcodpdpeklammaaGreatDoor
set_option linter.unusedVariables false
set_option linter.unusedSimpArgs false
open Go Go.RowKit
theorem lst_e1 {m : Int} {l : List Int} {c : Int} (h : rdSize l = .error c) : rdList m l = .error c := by unfold rdList; exact rdBind_err h
theorem lst_e2 {m : Int} {l l' : List Int} {x : Int} (h : rdSize l = .ok (x, l')) (hx : m < x) : rdList m l = .error 2 := by unfold rdList; rw [rdBind_ok h, if_pos hx]; rfl
theorem lst_go {m : Int} {l l' : List Int} {x : Int} (h : rdSize l = .ok (x, l')) (hx : ¬ m < x) : rdList m l = rdTake x.toNat l' := by unfold rdList; rw [rdBind_ok h, if_neg hx]
set_option maxRecDepth 100000 in
set_option maxHeartbeats 4000000 in
theorem rlist_any (S : Nat → Prop) (bv : Value) (l : List Int) (k : Nat) (e : Int) (most : Int) (w : World) (hb : RB S w bv l) (hk : k ≤ l.length) :
    Calls Tryz.prog 42 #[inV bv k e, .int .i64 most] w (RfP (rdList most) (encO 33554432) bv l k e w) := by
  have HB := Lib.hid hb; have HK := Lib.hid hk
  obtain ⟨a, cap, rfl, hlc, hcm, hnil⟩ := hb.any
  have hsm := hb.small
  have HSM := Lib.hid hsm
  clear hb hlc hcm hnil hsm
  unfold inV
  go_enter Tryz.func42, Tryz.ntmps42
  go_upto_region 1 with (fail)
  refine wp_rows2 (fun W0 hk0 hr1 hr2 hsz => ?_)
  simp only at hr1 hr2
  obtain ⟨p, hp⟩ : ∃ p, p = w.heap.size := ⟨_, rfl⟩
  rw [← hp] at hr1 hr2 hsz ⊢
  have HP := Lib.hid hp; have HSZ := Lib.hid hsz; have HK0 := Lib.hid hk0; have HR1 := Lib.hid hr1; have HR2 := Lib.hid hr2
  clear hk0 hr1 hr2 hp hsz
  go_upto_region 2 with (first
    | (refine wpList_load_at rfl 81 (.tmp 2) rfl p 0 rfl _ _ HR1.out Tryz.underlying81 rfl (sz_inv _ _ _) ?_)
    | (go_at_call 41; refine (rcompact_any S (.slice a l.length cap) l k e W0 (HB.out.keeps HK0.out) HK.out).mono ?_; intro r W1 hpst; obtain ⟨hk1, x1, val, k1, e1, rfl, hkl, hrr, rfl, x0, x9⟩ := hpst; have HK1 := Lib.hid hk1; have HKL := Lib.hid hkl; have HRR := Lib.hid hrr; have HX := Lib.hid (And.intro x0 x9); clear hk1 hkl hrr x0 x9; unfold inV))
  have hpq : p + 1 < W1.heap.size := by have h1 := HSZ.out; have h2 := HK1.out.size; omega
  have HPQ := Lib.hid hpq
  clear hpq
  have hrN : Row (W1.alloc (.cells #[.slice a l.length cap, .int .i64 k1, .int .i64 e1] 81)) W1.heap.size 0 [.slice a l.length cap, .int .i64 k1, .int .i64 e1] := Row.new _ _ _ rfl
  have hkN : Keeps W1 (W1.alloc (.cells #[.slice a l.length cap, .int .i64 k1, .int .i64 e1] 81)) := keeps_alloc (Keeps.refl _) _
  have hr1' := (HR1.out.keeps HK1.out).keeps hkN
  have hr2' := (HR2.out.keeps HK1.out).keeps hkN
  have hkb := (HK0.out.trans HK1.out).trans hkN
  have HNq := Lib.hid hrN; have HKq := Lib.hid hkb; have HR1 := Lib.hid hr1'; have HR2 := Lib.hid hr2'
  clear hrN hkN hkb hr1' hr2'
  generalize (W1.alloc (.cells #[.slice a l.length cap, .int .i64 k1, .int .i64 e1] 81)) = W5 at *
  generalize W1.heap.size = q at *
  obtain ⟨⟨c0, c1, c2⟩, f1, f2⟩ := HNq.out.cell3
  by_cases he1 : e1 = 0
  rotate_left
  focus
    go_upto_region 3 with (fail)
    refine wp_region_head (S := fun W => Hid ((fun W => Row W q 0 [.slice a l.length cap, .int .i64 k1, .int .i64 e1]) W)) 2 (by kernel_rfl) (by kernel_rfl) ?_ (fun hHeld => ?_)
    focus exact Lib.hid HNq.out.drew
    refine wpAnyHL_take (i := 0) (oi := ?_) (v := ?_) ?_ ?_ ?_ ?_ ?_ ?_ ?_ ?_ ?_ (Or.inl ⟨?_, ?_⟩) ?_ ?_
    rotate_left 2
    focus (simp only [List.getElem?_toArray, List.getElem?_cons_succ, List.getElem?_cons_zero]; exact rfl)
    iterate 7 focus kernel_rfl
    focus (exact fun _ _ _ h => h)
    focus rfl
    focus (intro wSw hSw; (have hSw := hSw.out); (refine run_load_row 81 (.tmp 7) ?_ q 0 ?_ _ _ hSw Tryz.underlying81 rfl (sz_inv _ _ _)) <;> rfl)
    focus assumption
    try simp only [Act.put, List.setIfInBounds_toArray, List.set_cons_zero, List.set_cons_succ]
    refine wpAnyHL_take (i := 1) (oi := ?_) (v := ?_) ?_ ?_ ?_ ?_ ?_ ?_ ?_ ?_ ?_ (Or.inl ⟨?_, ?_⟩) ?_ ?_
    rotate_left 2
    focus (simp only [List.getElem?_toArray, List.getElem?_cons_succ, List.getElem?_cons_zero]; exact rfl)
    iterate 7 focus kernel_rfl
    focus (exact fun _ _ _ h => h)
    focus rfl
    focus ((intro wSw hSw; (have hSw := hSw.out); (try dsimp only at hSw); go_simp) <;> with_reducible rfl)
    focus assumption
    try simp only [Act.put, List.setIfInBounds_toArray, List.set_cons_zero, List.set_cons_succ]
    refine wpAnyHL_done (by kernel_rfl) ?_
    try simp only [List.drop_succ_cons, List.drop_zero]
    go_wp2_with (refine wpList_store_row rfl 81 (.tmp 5) (.tmp 18) rfl (p + 1) 0 rfl _ [.slice a l.length cap, .int .i64 k1, .int .i64 e1] rfl HR2.out.drew rfl (sz_inv _ _ _) (three_one _ _ _ _ _) ?_; intro WR hrR hcR; have HWR := Lib.hid hrR; have HCR := Lib.hid hcR; clear hrR hcR)
    refine bodyPost_ret (results_tmp_cell (t := 4) (p := 5) rfl _ _ (p + 1) 0 _ _ _ rfl rfl HWR.out Tryz.underlying81 rfl (sz_inv _ _ _)) rfl ?_
    have hkk : Keeps w WR := keeps_chg (keeps_drew HKq.out) HCR.out (by have := HP.out; omega)
    exact ⟨hkk, [], _, k1, e1, rfl, HKL.out, HRR.out.bad he1 (fun c h => lst_e1 h), ⟨⟨hkk, Buf.nil _ _, fun g h => by simp [Value.ownBlock] at h⟩, by simp, fun x hx => by cases hx⟩⟩
  subst he1
  obtain ⟨rfl, hsize⟩ := HRR.out.zero
  obtain ⟨x0, x9, -, -⟩ := rdSize_inv (bytes_drop HB.out.bytes k) hsize
  obtain ⟨m, rfl⟩ := Int.eq_ofNat_of_zero_le x0
  have HSIZE := Lib.hid hsize; have HX9 := Lib.hid (show m ≤ 33554432 by omega)
  have hm1 : wrap64 (m : Int) = m := by unfold wrap64; omega
  clear hsize x0 HRR
  by_cases hbig : most < (m : Int)
  focus
    obtain ⟨⟨b0, b1, b2⟩, g1, g2⟩ := HR1.out.cell3
    go_upto_region 6 with (fail)
    clear b0 b1 b2 g1 g2
    have hr9 : Row (W5.setCell ⟨p, 2, none⟩ (.int .i64 2)) p 0 [.slice a l.length cap, .int .i64 k, .int .i64 2] := by
      have := HR1.out.set 2 (by simp) (.int .i64 2)
      simpa using this
    have hq9 : Row (W5.setCell ⟨p, 2, none⟩ (.int .i64 2)) (p + 1) 0 [.slice none 0 0, .int .i64 0, .int .i64 0] := HR2.out.other (by show p + 1 ≠ p; omega) _
    have hk9 : Keeps w (W5.setCell ⟨p, 2, none⟩ (.int .i64 2)) := keeps_chg HKq.out (Chg.cell p 2 _) (by have := HP.out; omega)
    have HR9 := Lib.hid hr9; have HQ9 := Lib.hid hq9; have HK9 := Lib.hid hk9
    clear hr9 hq9 hk9
    generalize W5.setCell ⟨p, 2, none⟩ (.int .i64 2) = W9 at *
    refine wp_region_head (S := fun W => Hid ((fun W => Row W p 0 [.slice a l.length cap, .int .i64 k, .int .i64 2]) W)) 2 (by kernel_rfl) (by kernel_rfl) ?_ (fun hHeld => ?_)
    focus exact Lib.hid HR9.out.drew
    refine wpAnyHL_take (i := 0) (oi := ?_) (v := ?_) ?_ ?_ ?_ ?_ ?_ ?_ ?_ ?_ ?_ (Or.inl ⟨?_, ?_⟩) ?_ ?_
    rotate_left 2
    focus (simp only [List.getElem?_toArray, List.getElem?_cons_succ, List.getElem?_cons_zero]; exact rfl)
    iterate 7 focus kernel_rfl
    focus (exact fun _ _ _ h => h)
    focus rfl
    focus (intro wSw hSw; (have hSw := hSw.out); (refine run_load_row 81 (.tmp 2) ?_ p 0 ?_ _ _ hSw Tryz.underlying81 rfl (sz_inv _ _ _)) <;> rfl)
    focus assumption
    try simp only [Act.put, List.setIfInBounds_toArray, List.set_cons_zero, List.set_cons_succ]
    refine wpAnyHL_take (i := 1) (oi := ?_) (v := ?_) ?_ ?_ ?_ ?_ ?_ ?_ ?_ ?_ ?_ (Or.inl ⟨?_, ?_⟩) ?_ ?_
    rotate_left 2
    focus (simp only [List.getElem?_toArray, List.getElem?_cons_succ, List.getElem?_cons_zero]; exact rfl)
    iterate 7 focus kernel_rfl
    focus (exact fun _ _ _ h => h)
    focus rfl
    focus ((intro wSw hSw; (have hSw := hSw.out); (try dsimp only at hSw); go_simp) <;> with_reducible rfl)
    focus assumption
    try simp only [Act.put, List.setIfInBounds_toArray, List.set_cons_zero, List.set_cons_succ]
    refine wpAnyHL_done (by kernel_rfl) ?_
    try simp only [List.drop_succ_cons, List.drop_zero]
    go_wp2_with (refine wpList_store_row rfl 81 (.tmp 5) (.tmp 24) rfl (p + 1) 0 rfl _ [.slice a l.length cap, .int .i64 k, .int .i64 2] rfl HQ9.out.drew rfl (sz_inv _ _ _) (three_one _ _ _ _ _) ?_; intro WR hrR hcR; have HWR := Lib.hid hrR; have HCR := Lib.hid hcR; clear hrR hcR)
    refine bodyPost_ret (results_tmp_cell (t := 4) (p := 5) rfl _ _ (p + 1) 0 _ _ _ rfl rfl HWR.out Tryz.underlying81 rfl (sz_inv _ _ _)) rfl ?_
    have hkk : Keeps w WR := keeps_chg (keeps_drew HK9.out) HCR.out (by have := HP.out; omega)
    exact ⟨hkk, [], _, k, 2, rfl, HK.out, .inr (.inr ⟨rfl, by decide, lst_e2 HSIZE.out hbig⟩), ⟨⟨hkk, Buf.nil _ _, fun g h => by simp [Value.ownBlock] at h⟩, by simp, fun x hx => by cases hx⟩⟩
  go_upto_region 8 with (first
    | (refine wpList_load_at rfl 81 (.tmp 7) rfl q 0 rfl _ _ HNq.out Tryz.underlying81 rfl (sz_inv _ _ _) ?_)
    | (go_at_call 73; refine (rraw_any S (.slice a l.length cap) l k1 0 m (by have := HX9.out; omega) W5 (HB.out.keeps HKq.out) HKL.out).mono ?_; intro r W6 hpst; obtain ⟨hk6, xs, val6, k2, e2, rfl, hkl2, hrr2, henc⟩ := hpst; have HK6 := Lib.hid hk6; have HKL2 := Lib.hid hkl2; have HRR2 := Lib.hid hrr2; have HENC := Lib.hid henc; obtain ⟨av, cv, rfl⟩ := henc.1.any; clear hk6 hkl2 hrr2 henc; unfold inV))
  clear c0 c1 c2 f1 f2
  have hpq2 : p + 1 < W6.heap.size := by have h1 := (HNq.out).lt (by simp); have h2 := HK6.out.size; have h3 := HPQ.out; omega
  have HPQ2 := Lib.hid hpq2
  clear hpq2
  have hown : Own w (W6.alloc (.cells #[.slice a l.length cap, .int .i64 k2, .int .i64 e2] 81)) (.slice av xs.length cv) xs.length xs := (HENC.out.1.keepsW HKq.out).step (keeps_alloc (Keeps.refl _) _)
  have HOWN := Lib.hid hown
  clear hown
  have hrN : Row (W6.alloc (.cells #[.slice a l.length cap, .int .i64 k2, .int .i64 e2] 81)) W6.heap.size 0 [.slice a l.length cap, .int .i64 k2, .int .i64 e2] := Row.new _ _ _ rfl
  have hkN : Keeps W6 (W6.alloc (.cells #[.slice a l.length cap, .int .i64 k2, .int .i64 e2] 81)) := keeps_alloc (Keeps.refl _) _
  have hr1' := (HR1.out.keeps HK6.out).keeps hkN
  have hr2' := (HR2.out.keeps HK6.out).keeps hkN
  have hkb := (HKq.out.trans HK6.out).trans hkN
  have HNq2 := Lib.hid hrN; have HKq2 := Lib.hid hkb; have HR1 := Lib.hid hr1'; have HR2 := Lib.hid hr2'
  clear hrN hkN hkb hr1' hr2'
  generalize (W6.alloc (.cells #[.slice a l.length cap, .int .i64 k2, .int .i64 e2] 81)) = W8 at *
  generalize W6.heap.size = q2 at *
  obtain ⟨⟨c0, c1, c2⟩, f1, f2⟩ := HNq2.out.cell3
  by_cases he2 : e2 = 0
  rotate_left
  focus
    obtain ⟨⟨b0, b1, b2⟩, g1, g2⟩ := HR1.out.cell3
    go_upto_region 10 with (fail)
    clear b0 b1 b2 g1 g2
    have hr9 : Row (W8.setCell ⟨p, 2, none⟩ (.int .i64 e2)) p 0 [.slice a l.length cap, .int .i64 k, .int .i64 e2] := by
      have := HR1.out.set 2 (by simp) (.int .i64 e2)
      simpa using this
    have hq9 : Row (W8.setCell ⟨p, 2, none⟩ (.int .i64 e2)) (p + 1) 0 [.slice none 0 0, .int .i64 0, .int .i64 0] := HR2.out.other (by show p + 1 ≠ p; omega) _
    have hk9 : Keeps w (W8.setCell ⟨p, 2, none⟩ (.int .i64 e2)) := keeps_chg HKq2.out (Chg.cell p 2 _) (by have := HP.out; omega)
    have HR9 := Lib.hid hr9; have HQ9 := Lib.hid hq9; have HK9 := Lib.hid hk9
    clear hr9 hq9 hk9
    generalize W8.setCell ⟨p, 2, none⟩ (.int .i64 e2) = W9 at *
    refine wp_region_head (S := fun W => Hid ((fun W => Row W p 0 [.slice a l.length cap, .int .i64 k, .int .i64 e2]) W)) 2 (by kernel_rfl) (by kernel_rfl) ?_ (fun hHeld => ?_)
    focus exact Lib.hid HR9.out.drew
    refine wpAnyHL_take (i := 0) (oi := ?_) (v := ?_) ?_ ?_ ?_ ?_ ?_ ?_ ?_ ?_ ?_ (Or.inl ⟨?_, ?_⟩) ?_ ?_
    rotate_left 2
    focus (simp only [List.getElem?_toArray, List.getElem?_cons_succ, List.getElem?_cons_zero]; exact rfl)
    iterate 7 focus kernel_rfl
    focus (exact fun _ _ _ h => h)
    focus rfl
    focus (intro wSw hSw; (have hSw := hSw.out); (refine run_load_row 81 (.tmp 2) ?_ p 0 ?_ _ _ hSw Tryz.underlying81 rfl (sz_inv _ _ _)) <;> rfl)
    focus assumption
    try simp only [Act.put, List.setIfInBounds_toArray, List.set_cons_zero, List.set_cons_succ]
    refine wpAnyHL_take (i := 1) (oi := ?_) (v := ?_) ?_ ?_ ?_ ?_ ?_ ?_ ?_ ?_ ?_ (Or.inl ⟨?_, ?_⟩) ?_ ?_
    rotate_left 2
    focus (simp only [List.getElem?_toArray, List.getElem?_cons_succ, List.getElem?_cons_zero]; exact rfl)
    iterate 7 focus kernel_rfl
    focus (exact fun _ _ _ h => h)
    focus rfl
    focus ((intro wSw hSw; (have hSw := hSw.out); (try dsimp only at hSw); go_simp) <;> with_reducible rfl)
    focus assumption
    try simp only [Act.put, List.setIfInBounds_toArray, List.set_cons_zero, List.set_cons_succ]
    refine wpAnyHL_done (by kernel_rfl) ?_
    try simp only [List.drop_succ_cons, List.drop_zero]
    go_wp2_with (refine wpList_store_row rfl 81 (.tmp 5) (.tmp 38) rfl (p + 1) 0 rfl _ [.slice a l.length cap, .int .i64 k, .int .i64 e2] rfl HQ9.out.drew rfl (sz_inv _ _ _) (three_one _ _ _ _ _) ?_; intro WR hrR hcR; have HWR := Lib.hid hrR; have HCR := Lib.hid hcR; clear hrR hcR)
    refine bodyPost_ret (results_tmp_cell (t := 4) (p := 5) rfl _ _ (p + 1) 0 _ _ _ rfl rfl HWR.out Tryz.underlying81 rfl (sz_inv _ _ _)) rfl ?_
    have hkk : Keeps w WR := keeps_chg (keeps_drew HK9.out) HCR.out (by have := HP.out; omega)
    have herr : rdTake m (l.drop k1) = .error e2 := by
      rcases HRR2.out with ⟨h, _⟩ | ⟨_, h, _⟩ | ⟨_, _, h⟩
      · exact absurd rfl h
      · exact absurd h he2
      · exact h
    exact ⟨hkk, [], _, k, e2, rfl, HK.out, .inr (.inr ⟨rfl, he2, by rw [lst_go HSIZE.out (by omega)]; exact herr⟩), ⟨⟨hkk, Buf.nil _ _, fun g h => by simp [Value.ownBlock] at h⟩, by simp, fun x hx => by cases hx⟩⟩
  subst he2
  have HTK := Lib.hid (HRR2.out.zero).2
  go_upto_region 11 with (fail)
  refine wp_region_head (S := fun W => Hid ((fun W => Row W q2 0 [.slice a l.length cap, .int .i64 k2, .int .i64 0]) W)) 3 (by kernel_rfl) (by kernel_rfl) ?_ (fun hHeld => ?_)
  focus exact Lib.hid HNq2.out.drew
  refine wpAnyHL_take (i := 0) (oi := ?_) (v := ?_) ?_ ?_ ?_ ?_ ?_ ?_ ?_ ?_ ?_ (Or.inl ⟨?_, ?_⟩) ?_ ?_
  rotate_left 2
  focus (simp only [List.getElem?_toArray, List.getElem?_cons_succ, List.getElem?_cons_zero]; exact rfl)
  iterate 7 focus kernel_rfl
  focus (exact fun _ _ _ h => h)
  focus rfl
  focus ((intro wSw hSw; (have hSw := hSw.out); (try dsimp only at hSw); go_simp) <;> with_reducible rfl)
  focus assumption
  try simp only [Act.put, List.setIfInBounds_toArray, List.set_cons_zero, List.set_cons_succ]
  refine wpAnyHL_take (i := 1) (oi := ?_) (v := ?_) ?_ ?_ ?_ ?_ ?_ ?_ ?_ ?_ ?_ (Or.inl ⟨?_, ?_⟩) ?_ ?_
  rotate_left 2
  focus (simp only [List.getElem?_toArray, List.getElem?_cons_succ, List.getElem?_cons_zero]; exact rfl)
  iterate 7 focus kernel_rfl
  focus (exact fun _ _ _ h => h)
  focus rfl
  focus (intro wSw hSw; (have hSw := hSw.out); (refine run_load_row 81 (.tmp 9) ?_ q2 0 ?_ _ _ hSw Tryz.underlying81 rfl (sz_inv _ _ _)) <;> rfl)
  focus assumption
  try simp only [Act.put, List.setIfInBounds_toArray, List.set_cons_zero, List.set_cons_succ]
  refine wpAnyHL_take (i := 2) (oi := ?_) (v := ?_) ?_ ?_ ?_ ?_ ?_ ?_ ?_ ?_ ?_ (Or.inl ⟨?_, ?_⟩) ?_ ?_
  rotate_left 2
  focus (simp only [List.getElem?_toArray, List.getElem?_cons_succ, List.getElem?_cons_zero]; exact rfl)
  iterate 7 focus kernel_rfl
  focus (exact fun _ _ _ h => h)
  focus rfl
  focus ((intro wSw hSw; (have hSw := hSw.out); (try dsimp only at hSw); go_simp) <;> with_reducible rfl)
  focus assumption
  try simp only [Act.put, List.setIfInBounds_toArray, List.set_cons_zero, List.set_cons_succ]
  refine wpAnyHL_done (by kernel_rfl) ?_
  try simp only [List.drop_succ_cons, List.drop_zero]
  go_wp2_with (refine wpList_store_row rfl 81 (.tmp 5) (.tmp 40) rfl (p + 1) 0 rfl _ [.slice a l.length cap, .int .i64 k2, .int .i64 0] rfl HR2.out.drew rfl (sz_inv _ _ _) (three_one _ _ _ _ _) ?_; intro WR hrR hcR; have HWR := Lib.hid hrR; have HCR := Lib.hid hcR; clear hrR hcR)
  refine bodyPost_ret (results_tmp_cell (t := 4) (p := 5) rfl _ _ (p + 1) 0 _ _ _ rfl rfl HWR.out Tryz.underlying81 rfl (sz_inv _ _ _)) rfl ?_
  have hcR : Chg (· = p + 1) W8.drew WR := HCR.out
  have hkk : Keeps w WR := keeps_chg (keeps_drew HKq2.out) hcR (by have := HP.out; omega)
  have hnew := HENC.out.1.new
  have hq1 := HNq.out.lt (by simp)
  have hqq := HPQ.out
  have hbuf := (HOWN.out.buf.keeps (keeps_drew (Keeps.refl _))).chg hcR (fun b hb e => by have := hnew b hb; omega)
  exact ⟨hkk, xs, _, k2, 0, rfl, HKL2.out, .inr (.inl ⟨rfl, rfl, by rw [lst_go HSIZE.out (by omega)]; exact HTK.out⟩), ⟨⟨hkk, hbuf, HOWN.out.new⟩, Nat.le_trans HENC.out.2.1 HX9.out, HENC.out.2.2⟩⟩
def rdCountI : Rdr Int := rdBind rdSize (fun n => if 25000 < n then rdErr 2 else rdOk n)
def encI (_ _ : World) (x : Int) (v : Value) : Prop := v = .int .i64 (IntKind.i64.wrap x) ∧ 0 ≤ x ∧ x < 18446744073709551616
theorem cnt_e1 {l : List Int} {c : Int} (h : rdSize l = .error c) : rdCountI l = .error c := by unfold rdCountI; exact rdBind_err h
theorem cnt_e2 {l l' : List Int} {x : Int} (h : rdSize l = .ok (x, l')) (hx : 25000 < x) : rdCountI l = .error 2 := by unfold rdCountI; rw [rdBind_ok h, if_pos hx]; rfl
theorem cnt_ok {l l' : List Int} {x : Int} (h : rdSize l = .ok (x, l')) (hx : ¬ 25000 < x) : rdCountI l = .ok (x, l') := by unfold rdCountI; rw [rdBind_ok h, if_neg hx]; rfl
set_option maxRecDepth 100000 in
set_option maxHeartbeats 4000000 in
theorem rcount_any (S : Nat → Prop) (bv : Value) (l : List Int) (k : Nat) (e : Int) (w : World) (hb : RB S w bv l) (hk : k ≤ l.length) :
    Calls Tryz.prog 74 #[inV bv k e] w (RfP rdCountI encI bv l k e w) := by
  have HB := Lib.hid hb; have HK := Lib.hid hk
  obtain ⟨a, cap, rfl, hlc, hcm, hnil⟩ := hb.any
  have hsm := hb.small
  have HSM := Lib.hid hsm
  clear hb hlc hcm hnil hsm
  unfold inV
  go_enter Tryz.func74, Tryz.ntmps74
  go_upto_region 1 with (fail)
  refine wp_rows2 (fun W0 hk0 hr1 hr2 hsz => ?_)
  simp only at hr1 hr2
  obtain ⟨p, hp⟩ : ∃ p, p = w.heap.size := ⟨_, rfl⟩
  rw [← hp] at hr1 hr2 hsz ⊢
  have HP := Lib.hid hp; have HSZ := Lib.hid hsz; have HK0 := Lib.hid hk0; have HR1 := Lib.hid hr1; have HR2 := Lib.hid hr2
  clear hk0 hr1 hr2 hp hsz
  go_upto_region 2 with (first
    | (refine wpList_load_at rfl 81 (.tmp 1) rfl p 0 rfl _ _ HR1.out Tryz.underlying81 rfl (sz_inv _ _ _) ?_)
    | (go_at_call 41; refine (rcompact_any S (.slice a l.length cap) l k e W0 (HB.out.keeps HK0.out) HK.out).mono ?_; intro r W1 hpst; obtain ⟨hk1, x1, val, k1, e1, rfl, hkl, hrr, rfl, x0, x9⟩ := hpst; have HK1 := Lib.hid hk1; have HKL := Lib.hid hkl; have HRR := Lib.hid hrr; have HX := Lib.hid (And.intro x0 x9); clear hk1 hkl hrr x0 x9; unfold inV))
  have hpq : p + 1 < W1.heap.size := by have h1 := HSZ.out; have h2 := HK1.out.size; omega
  have HPQ := Lib.hid hpq
  clear hpq
  have hrN : Row (W1.alloc (.cells #[.slice a l.length cap, .int .i64 k1, .int .i64 e1] 81)) W1.heap.size 0 [.slice a l.length cap, .int .i64 k1, .int .i64 e1] := Row.new _ _ _ rfl
  have hkN : Keeps W1 (W1.alloc (.cells #[.slice a l.length cap, .int .i64 k1, .int .i64 e1] 81)) := keeps_alloc (Keeps.refl _) _
  have hr1' := (HR1.out.keeps HK1.out).keeps hkN
  have hr2' := (HR2.out.keeps HK1.out).keeps hkN
  have hkb := (HK0.out.trans HK1.out).trans hkN
  have HNq := Lib.hid hrN; have HKq := Lib.hid hkb; have HR1 := Lib.hid hr1'; have HR2 := Lib.hid hr2'
  clear hrN hkN hkb hr1' hr2'
  generalize (W1.alloc (.cells #[.slice a l.length cap, .int .i64 k1, .int .i64 e1] 81)) = W5 at *
  generalize W1.heap.size = q at *
  obtain ⟨⟨c0, c1, c2⟩, f1, f2⟩ := HNq.out.cell3
  by_cases he1 : e1 = 0
  rotate_left
  focus
    go_upto_region 4 with (fail)
    refine wp_region_head (S := fun W => Hid ((fun W => Row W q 0 [.slice a l.length cap, .int .i64 k1, .int .i64 e1]) W)) 4 (by kernel_rfl) (by kernel_rfl) ?_ (fun hHeld => ?_)
    focus exact Lib.hid HNq.out.drew
    refine wpAnyHL_take (i := 0) (oi := ?_) (v := ?_) ?_ ?_ ?_ ?_ ?_ ?_ ?_ ?_ ?_ (Or.inl ⟨?_, ?_⟩) ?_ ?_
    rotate_left 2
    focus (simp only [List.getElem?_toArray, List.getElem?_cons_succ, List.getElem?_cons_zero]; exact rfl)
    iterate 7 focus kernel_rfl
    focus (exact fun _ _ _ h => h)
    focus rfl
    focus ((intro wSw hSw; (have hSw := hSw.out); (try dsimp only at hSw); go_simp) <;> with_reducible rfl)
    focus assumption
    try simp only [Act.put, List.setIfInBounds_toArray, List.set_cons_zero, List.set_cons_succ]
    refine wpAnyHL_take (i := 1) (oi := ?_) (v := ?_) ?_ ?_ ?_ ?_ ?_ ?_ ?_ ?_ ?_ (Or.inl ⟨?_, ?_⟩) ?_ ?_
    rotate_left 2
    focus (simp only [List.getElem?_toArray, List.getElem?_cons_succ, List.getElem?_cons_zero]; exact rfl)
    iterate 7 focus kernel_rfl
    focus (exact fun _ _ _ h => h)
    focus rfl
    focus ((intro wSw hSw; (have hSw := hSw.out); (try dsimp only at hSw); go_simp) <;> with_reducible rfl)
    focus assumption
    try simp only [Act.put, List.setIfInBounds_toArray, List.set_cons_zero, List.set_cons_succ]
    refine wpAnyHL_take (i := 2) (oi := ?_) (v := ?_) ?_ ?_ ?_ ?_ ?_ ?_ ?_ ?_ ?_ (Or.inl ⟨?_, ?_⟩) ?_ ?_
    rotate_left 2
    focus (simp only [List.getElem?_toArray, List.getElem?_cons_succ, List.getElem?_cons_zero]; exact rfl)
    iterate 7 focus kernel_rfl
    focus (exact fun _ _ _ h => h)
    focus rfl
    focus (intro wSw hSw; (have hSw := hSw.out); (refine run_load_row 81 (.tmp 5) ?_ q 0 ?_ _ _ hSw Tryz.underlying81 rfl (sz_inv _ _ _)) <;> rfl)
    focus assumption
    try simp only [Act.put, List.setIfInBounds_toArray, List.set_cons_zero, List.set_cons_succ]
    refine wpAnyHL_take (i := 3) (oi := ?_) (v := ?_) ?_ ?_ ?_ ?_ ?_ ?_ ?_ ?_ ?_ (Or.inl ⟨?_, ?_⟩) ?_ ?_
    rotate_left 2
    focus (simp only [List.getElem?_toArray, List.getElem?_cons_succ, List.getElem?_cons_zero]; exact rfl)
    iterate 7 focus kernel_rfl
    focus (exact fun _ _ _ h => h)
    focus rfl
    focus ((intro wSw hSw; (have hSw := hSw.out); (try dsimp only at hSw); go_simp) <;> with_reducible rfl)
    focus assumption
    try simp only [Act.put, List.setIfInBounds_toArray, List.set_cons_zero, List.set_cons_succ]
    refine wpAnyHL_done (by kernel_rfl) ?_
    try simp only [List.drop_succ_cons, List.drop_zero]
    go_wp2_with (refine wpList_store_row rfl 81 (.tmp 3) (.tmp 21) rfl (p + 1) 0 rfl _ [.slice a l.length cap, .int .i64 k1, .int .i64 e1] rfl HR2.out.drew rfl (sz_inv _ _ _) (three_one _ _ _ _ _) ?_; intro WR hrR hcR; have HWR := Lib.hid hrR; have HCR := Lib.hid hcR; clear hrR hcR)
    refine bodyPost_ret (results_tmp_cell (t := 2) (p := 3) rfl _ _ (p + 1) 0 _ _ _ rfl rfl HWR.out Tryz.underlying81 rfl (sz_inv _ _ _)) rfl ?_
    have hkk : Keeps w WR := keeps_chg (keeps_drew HKq.out) HCR.out (by have := HP.out; omega)
    exact ⟨hkk, x1, _, k1, e1, rfl, HKL.out, HRR.out.bad he1 (fun c h => cnt_e1 h), rfl, HX.out⟩
  subst he1
  obtain ⟨rfl, hsize⟩ := HRR.out.zero
  have HSIZE := Lib.hid hsize
  clear hsize HRR
  by_cases hbig : (25000 : Int) < x1
  focus
    go_upto_region 4 with (fail)
    clear c0 c1 c2 f1 f2
    have hr9 : Row (W5.setCell ⟨q, 2, none⟩ (.int .i64 2)) q 0 [.slice a l.length cap, .int .i64 k1, .int .i64 2] := by
      have := HNq.out.set 2 (by simp) (.int .i64 2)
      simpa using this
    have hq9 : Row (W5.setCell ⟨q, 2, none⟩ (.int .i64 2)) (p + 1) 0 [.slice none 0 0, .int .i64 0, .int .i64 0] := HR2.out.other (by have := HPQ.out; show p + 1 ≠ q; omega) _
    have hk9 : Keeps w (W5.setCell ⟨q, 2, none⟩ (.int .i64 2)) := keeps_chg HKq.out (Chg.cell q 2 _) (by have := HP.out; have := HPQ.out; omega)
    have HR9 := Lib.hid hr9; have HQ9 := Lib.hid hq9; have HK9 := Lib.hid hk9
    clear hr9 hq9 hk9
    generalize W5.setCell ⟨q, 2, none⟩ (.int .i64 2) = W9 at *
    refine wp_region_head (S := fun W => Hid ((fun W => Row W q 0 [.slice a l.length cap, .int .i64 k1, .int .i64 2]) W)) 4 (by kernel_rfl) (by kernel_rfl) ?_ (fun hHeld => ?_)
    focus exact Lib.hid HR9.out.drew
    refine wpAnyHL_take (i := 0) (oi := ?_) (v := ?_) ?_ ?_ ?_ ?_ ?_ ?_ ?_ ?_ ?_ (Or.inl ⟨?_, ?_⟩) ?_ ?_
    rotate_left 2
    focus (simp only [List.getElem?_toArray, List.getElem?_cons_succ, List.getElem?_cons_zero]; exact rfl)
    iterate 7 focus kernel_rfl
    focus (exact fun _ _ _ h => h)
    focus rfl
    focus ((intro wSw hSw; (have hSw := hSw.out); (try dsimp only at hSw); go_simp) <;> with_reducible rfl)
    focus assumption
    try simp only [Act.put, List.setIfInBounds_toArray, List.set_cons_zero, List.set_cons_succ]
    refine wpAnyHL_take (i := 1) (oi := ?_) (v := ?_) ?_ ?_ ?_ ?_ ?_ ?_ ?_ ?_ ?_ (Or.inl ⟨?_, ?_⟩) ?_ ?_
    rotate_left 2
    focus (simp only [List.getElem?_toArray, List.getElem?_cons_succ, List.getElem?_cons_zero]; exact rfl)
    iterate 7 focus kernel_rfl
    focus (exact fun _ _ _ h => h)
    focus rfl
    focus ((intro wSw hSw; (have hSw := hSw.out); (try dsimp only at hSw); go_simp) <;> with_reducible rfl)
    focus assumption
    try simp only [Act.put, List.setIfInBounds_toArray, List.set_cons_zero, List.set_cons_succ]
    refine wpAnyHL_take (i := 2) (oi := ?_) (v := ?_) ?_ ?_ ?_ ?_ ?_ ?_ ?_ ?_ ?_ (Or.inl ⟨?_, ?_⟩) ?_ ?_
    rotate_left 2
    focus (simp only [List.getElem?_toArray, List.getElem?_cons_succ, List.getElem?_cons_zero]; exact rfl)
    iterate 7 focus kernel_rfl
    focus (exact fun _ _ _ h => h)
    focus rfl
    focus (intro wSw hSw; (have hSw := hSw.out); (refine run_load_row 81 (.tmp 5) ?_ q 0 ?_ _ _ hSw Tryz.underlying81 rfl (sz_inv _ _ _)) <;> rfl)
    focus assumption
    try simp only [Act.put, List.setIfInBounds_toArray, List.set_cons_zero, List.set_cons_succ]
    refine wpAnyHL_take (i := 3) (oi := ?_) (v := ?_) ?_ ?_ ?_ ?_ ?_ ?_ ?_ ?_ ?_ (Or.inl ⟨?_, ?_⟩) ?_ ?_
    rotate_left 2
    focus (simp only [List.getElem?_toArray, List.getElem?_cons_succ, List.getElem?_cons_zero]; exact rfl)
    iterate 7 focus kernel_rfl
    focus (exact fun _ _ _ h => h)
    focus rfl
    focus ((intro wSw hSw; (have hSw := hSw.out); (try dsimp only at hSw); go_simp) <;> with_reducible rfl)
    focus assumption
    try simp only [Act.put, List.setIfInBounds_toArray, List.set_cons_zero, List.set_cons_succ]
    refine wpAnyHL_done (by kernel_rfl) ?_
    try simp only [List.drop_succ_cons, List.drop_zero]
    go_wp2_with (refine wpList_store_row rfl 81 (.tmp 3) (.tmp 21) rfl (p + 1) 0 rfl _ [.slice a l.length cap, .int .i64 k1, .int .i64 2] rfl HQ9.out.drew rfl (sz_inv _ _ _) (three_one _ _ _ _ _) ?_; intro WR hrR hcR; have HWR := Lib.hid hrR; have HCR := Lib.hid hcR; clear hrR hcR)
    refine bodyPost_ret (results_tmp_cell (t := 2) (p := 3) rfl _ _ (p + 1) 0 _ _ _ rfl rfl HWR.out Tryz.underlying81 rfl (sz_inv _ _ _)) rfl ?_
    have hkk : Keeps w WR := keeps_chg (keeps_drew HK9.out) HCR.out (by have := HP.out; omega)
    exact ⟨hkk, x1, _, k1, 2, rfl, HKL.out, .inr (.inr ⟨rfl, by decide, cnt_e2 HSIZE.out hbig⟩), rfl, HX.out⟩
  focus
    have HBIG := Lib.hid hbig
    go_upto_region 4 with (fail)
    refine wp_region_head (S := fun W => Hid ((fun W => Row W q 0 [.slice a l.length cap, .int .i64 k1, .int .i64 0]) W)) 4 (by kernel_rfl) (by kernel_rfl) ?_ (fun hHeld => ?_)
    focus exact Lib.hid HNq.out.drew
    refine wpAnyHL_take (i := 0) (oi := ?_) (v := ?_) ?_ ?_ ?_ ?_ ?_ ?_ ?_ ?_ ?_ (Or.inl ⟨?_, ?_⟩) ?_ ?_
    rotate_left 2
    focus (simp only [List.getElem?_toArray, List.getElem?_cons_succ, List.getElem?_cons_zero]; exact rfl)
    iterate 7 focus kernel_rfl
    focus (exact fun _ _ _ h => h)
    focus rfl
    focus ((intro wSw hSw; (have hSw := hSw.out); (try dsimp only at hSw); go_simp) <;> with_reducible rfl)
    focus assumption
    try simp only [Act.put, List.setIfInBounds_toArray, List.set_cons_zero, List.set_cons_succ]
    refine wpAnyHL_take (i := 1) (oi := ?_) (v := ?_) ?_ ?_ ?_ ?_ ?_ ?_ ?_ ?_ ?_ (Or.inl ⟨?_, ?_⟩) ?_ ?_
    rotate_left 2
    focus (simp only [List.getElem?_toArray, List.getElem?_cons_succ, List.getElem?_cons_zero]; exact rfl)
    iterate 7 focus kernel_rfl
    focus (exact fun _ _ _ h => h)
    focus rfl
    focus ((intro wSw hSw; (have hSw := hSw.out); (try dsimp only at hSw); go_simp) <;> with_reducible rfl)
    focus assumption
    try simp only [Act.put, List.setIfInBounds_toArray, List.set_cons_zero, List.set_cons_succ]
    refine wpAnyHL_take (i := 2) (oi := ?_) (v := ?_) ?_ ?_ ?_ ?_ ?_ ?_ ?_ ?_ ?_ (Or.inl ⟨?_, ?_⟩) ?_ ?_
    rotate_left 2
    focus (simp only [List.getElem?_toArray, List.getElem?_cons_succ, List.getElem?_cons_zero]; exact rfl)
    iterate 7 focus kernel_rfl
    focus (exact fun _ _ _ h => h)
    focus rfl
    focus (intro wSw hSw; (have hSw := hSw.out); (refine run_load_row 81 (.tmp 5) ?_ q 0 ?_ _ _ hSw Tryz.underlying81 rfl (sz_inv _ _ _)) <;> rfl)
    focus assumption
    try simp only [Act.put, List.setIfInBounds_toArray, List.set_cons_zero, List.set_cons_succ]
    refine wpAnyHL_take (i := 3) (oi := ?_) (v := ?_) ?_ ?_ ?_ ?_ ?_ ?_ ?_ ?_ ?_ (Or.inl ⟨?_, ?_⟩) ?_ ?_
    rotate_left 2
    focus (simp only [List.getElem?_toArray, List.getElem?_cons_succ, List.getElem?_cons_zero]; exact rfl)
    iterate 7 focus kernel_rfl
    focus (exact fun _ _ _ h => h)
    focus rfl
    focus ((intro wSw hSw; (have hSw := hSw.out); (try dsimp only at hSw); go_simp) <;> with_reducible rfl)
    focus assumption
    try simp only [Act.put, List.setIfInBounds_toArray, List.set_cons_zero, List.set_cons_succ]
    refine wpAnyHL_done (by kernel_rfl) ?_
    try simp only [List.drop_succ_cons, List.drop_zero]
    go_wp2_with (refine wpList_store_row rfl 81 (.tmp 3) (.tmp 21) rfl (p + 1) 0 rfl _ [.slice a l.length cap, .int .i64 k1, .int .i64 0] rfl HR2.out.drew rfl (sz_inv _ _ _) (three_one _ _ _ _ _) ?_; intro WR hrR hcR; have HWR := Lib.hid hrR; have HCR := Lib.hid hcR; clear hrR hcR)
    refine bodyPost_ret (results_tmp_cell (t := 2) (p := 3) rfl _ _ (p + 1) 0 _ _ _ rfl rfl HWR.out Tryz.underlying81 rfl (sz_inv _ _ _)) rfl ?_
    have hkk : Keeps w WR := keeps_chg (keeps_drew HKq.out) HCR.out (by have := HP.out; omega)
    exact ⟨hkk, x1, _, k1, 0, rfl, HKL.out, .inr (.inl ⟨rfl, rfl, cnt_ok HSIZE.out (by have := HBIG.out; omega)⟩), rfl, HX.out⟩
end Go.Proofs.YtcodpdpeklammaaGreatDoor
