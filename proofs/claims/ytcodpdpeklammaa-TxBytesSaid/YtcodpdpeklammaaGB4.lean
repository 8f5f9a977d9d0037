/- The reference's Num, List, count. (Printed by gref01.py.) -/
import Derived.Test.YtcodpdpeklammaaGB3
namespace Go.Proofs.Ytcodpdpeklammaa
set_option linter.unusedVariables false
set_option linter.unusedSimpArgs false
open Go Go.RowKit
def encN (_ _ : World) (x : Int) (v : Value) : Prop := v = .int .u64 x ∧ 0 ≤ x ∧ x < 18446744073709551616
theorem num_of_take {n : Nat} {e : Int} {l l' : List Int} {xs : List Int} {e' : Int} (h : RfR (rdTake n) e l xs e' l') : RfR (rdNum n) e l (leV xs) e' l' := by
  rcases h with h | ⟨h1, h2, h3⟩ | ⟨h1, h2, h3⟩
  · exact .inl h
  · exact .inr (.inl ⟨h1, h2, by unfold rdNum; rw [rdBind_ok h3]; rfl⟩)
  · exact .inr (.inr ⟨h1, h2, by unfold rdNum; exact rdBind_err h3⟩)
set_option maxRecDepth 100000 in
set_option maxHeartbeats 1000000 in
theorem rnum_any (S : Nat → Prop) (bv : Value) (l : List Int) (k : Nat) (e : Int) (n : Nat) (hn : n ≤ 8) (w : World) (hb : RB S w bv l) (hk : k ≤ l.length) :
    Calls Try.prog 34 #[inV bv k e, .int .i64 n] w (RfP (rdNum n) encN bv l k e w) := by
  have HB := Lib.hid hb; have HK := Lib.hid hk
  obtain ⟨a, cap, rfl, hlc, hcm, hnil⟩ := hb.any
  have hsm := hb.small
  have HSM := Lib.hid hsm
  clear hb hlc hcm hnil hsm
  unfold inV
  go_enter Try.func34, Try.ntmps34
  go_upto_region 1 with (fail)
  refine wp_rows2 (fun W0 hk0 hr1 hr2 hsz => ?_)
  simp only at hr1 hr2
  obtain ⟨p, hp⟩ : ∃ p, p = w.heap.size := ⟨_, rfl⟩
  rw [← hp] at hr1 hr2 hsz ⊢
  have HP := Lib.hid hp; have HSZ := Lib.hid hsz; have HK0 := Lib.hid hk0; have HR1 := Lib.hid hr1; have HR2 := Lib.hid hr2
  clear hk0 hr1 hr2 hp hsz
  go_upto_region 2 with (first
    | (refine wpList_load_at rfl 70 (.tmp 2) rfl p 0 rfl _ _ HR1.out Try.underlying70 rfl (sz_inv _ _ _) ?_)
    | (go_at_call 36; refine (rraw_any S (.slice a l.length cap) l k e n (by omega) W0 (HB.out.keeps HK0.out) HK.out).mono ?_; intro r W1 hpst; obtain ⟨hk1, xs, val, k1, e1, rfl, hkl, hrr, henc⟩ := hpst; have HK1 := Lib.hid hk1; have HKL := Lib.hid hkl; have HRR := Lib.hid hrr; have HENC := Lib.hid henc; obtain ⟨av, cv, rfl⟩ := henc.1.any; clear hk1 hkl hrr henc; unfold inV))
  have hr7 : Row (W1.alloc (.cells #[.slice a l.length cap, .int .i64 k1, .int .i64 e1] 70)) W1.heap.size 0 [.slice a l.length cap, .int .i64 k1, .int .i64 e1] := Row.new _ _ _ rfl
  have hk7 : Keeps W1 (W1.alloc (.cells #[.slice a l.length cap, .int .i64 k1, .int .i64 e1] 70)) := keeps_alloc (Keeps.refl _) _
  have hq7 : Row (W1.alloc (.cells #[.slice a l.length cap, .int .i64 k1, .int .i64 e1] 70)) (p + 1) 0 _ := (HR2.out.keeps HK1.out).keeps hk7
  have hpq : p + 1 < W1.heap.size := by have h1 := HSZ.out; have h2 := HK1.out.size; omega
  have HR7 := Lib.hid hr7; have HK7 := Lib.hid ((HK0.out.trans HK1.out).trans hk7); have HQ7 := Lib.hid hq7; have HPQ := Lib.hid hpq
  have HRD := Lib.hid (HENC.out.1.rd.keeps hk7)
  clear hr7 hk7 hq7 hpq
  generalize W1.alloc (.cells #[.slice a l.length cap, .int .i64 k1, .int .i64 e1] 70) = W7 at *
  generalize W1.heap.size = q at *
  refine wp_region_head (S := fun W => Hid ((fun W => Row W q 0 [.slice a l.length cap, .int .i64 k1, .int .i64 e1]) W)) 4 (by kernel_rfl) (by kernel_rfl) ?_ (fun hHeld => ?_)
  focus exact Lib.hid HR7.out.drew
  refine wpAnyHL_take (i := 0) (oi := ?_) (v := ?_) ?_ ?_ ?_ ?_ ?_ ?_ ?_ ?_ ?_ (Or.inl ⟨?_, ?_⟩) ?_ ?_
  rotate_left 2
  focus (simp only [List.getElem?_toArray, List.getElem?_cons_succ, List.getElem?_cons_zero]; exact rfl)
  focus kernel_rfl
  focus kernel_rfl
  focus kernel_rfl
  focus kernel_rfl
  focus kernel_rfl
  focus kernel_rfl
  focus kernel_rfl
  focus (exact fun _ _ _ h => h)
  focus rfl
  focus ((intro wSw hSw; (have hSw := hSw.out); (try dsimp only at hSw); go_simp) <;> with_reducible rfl)
  focus assumption
  try simp only [Act.put, List.setIfInBounds_toArray, List.set_cons_zero, List.set_cons_succ]
  refine wpAnyHL_take (i := 2) (oi := ?_) (v := ?_) ?_ ?_ ?_ ?_ ?_ ?_ ?_ ?_ ?_ (Or.inl ⟨?_, ?_⟩) ?_ ?_
  rotate_left 2
  focus (simp only [List.getElem?_toArray, List.getElem?_cons_succ, List.getElem?_cons_zero]; exact rfl)
  focus kernel_rfl
  focus kernel_rfl
  focus kernel_rfl
  focus kernel_rfl
  focus kernel_rfl
  focus kernel_rfl
  focus kernel_rfl
  focus (exact fun _ _ _ h => h)
  focus rfl
  focus (intro wSw hSw; (have hSw := hSw.out); (refine run_load_row 70 (.tmp 7) ?_ q 0 ?_ _ _ hSw Try.underlying70 rfl (sz_inv _ _ _)) <;> rfl)
  focus assumption
  try simp only [Act.put, List.setIfInBounds_toArray, List.set_cons_zero, List.set_cons_succ]
  refine wpAnyHL_one (i := 1) (o := ?_) (by kernel_rfl) (by kernel_rfl) ?_ ?_
  rotate_left 1
  focus (simp only [List.getElem?_toArray, List.getElem?_cons_succ, List.getElem?_cons_zero]; exact rfl)
  go_wp2_with (go_at_call 65; refine (value_any _ xs W7.drew (HRD.out.keeps (keeps_drew (Keeps.refl _))) HENC.out.2.2 (Nat.le_trans HENC.out.2.1 hn)).mono ?_; rintro r W8 ⟨rfl, rfl⟩)
  try dsimp only [StepQ]
  refine ⟨?_, fun hHeld => ?_⟩
  focus (exact Lib.hid (hHeld.out))
  try simp only [Act.put, List.setIfInBounds_toArray, List.set_cons_zero, List.set_cons_succ]
  refine wpAnyHL_take (i := 3) (oi := ?_) (v := ?_) ?_ ?_ ?_ ?_ ?_ ?_ ?_ ?_ ?_ (Or.inl ⟨?_, ?_⟩) ?_ ?_
  rotate_left 2
  focus (simp only [List.getElem?_toArray, List.getElem?_cons_succ, List.getElem?_cons_zero]; exact rfl)
  focus kernel_rfl
  focus kernel_rfl
  focus kernel_rfl
  focus kernel_rfl
  focus kernel_rfl
  focus kernel_rfl
  focus kernel_rfl
  focus (exact fun _ _ _ h => h)
  focus rfl
  focus ((intro wSw hSw; (have hSw := hSw.out); (try dsimp only at hSw); go_simp) <;> with_reducible rfl)
  focus assumption
  try simp only [Act.put, List.setIfInBounds_toArray, List.set_cons_zero, List.set_cons_succ]
  refine wpAnyHL_done (by kernel_rfl) ?_
  try simp only [List.drop_succ_cons, List.drop_zero]
  go_wp2_with (refine wpList_store_row rfl 70 (.tmp 5) (.tmp 16) rfl (p + 1) 0 rfl _ [.slice a l.length cap, .int .i64 k1, .int .i64 e1] rfl HQ7.out.drew rfl (sz_inv _ _ _) (three_one _ _ _ _ _) ?_; intro W3 hr3 hc3; have HR3 := Lib.hid hr3; have HC3 := Lib.hid hc3; clear hr3 hc3)
  refine bodyPost_ret (results_tmp_cell (t := 4) (p := 5) rfl _ _ (p + 1) 0 _ _ _ rfl rfl HR3.out Try.underlying70 rfl (sz_inv _ _ _)) rfl ?_
  have hkk : Keeps w W3 := keeps_chg (keeps_drew HK7.out) HC3.out (by have := HP.out; omega)
  exact ⟨hkk, leV xs, _, k1, e1, rfl, HKL.out, num_of_take HRR.out, rfl, (leV_small8 HENC.out.2.2 (Nat.le_trans HENC.out.2.1 hn)).1, (leV_small8 HENC.out.2.2 (Nat.le_trans HENC.out.2.1 hn)).2⟩
end Go.Proofs.Ytcodpdpeklammaa
