/- strongboxlaw06.HdkeyMasters: the walk. No condition. -/
import Derived.Test.YthfepfpmkckdnaaDoorHkTold
namespace Go.Proofs.YthfepfpmkckdnaaDoor
set_option linter.unusedVariables false
set_option linter.unusedSimpArgs false
open Go Go.RowKit

theorem masterK_form (l : List Int) : ∃ cc z, masterK l = (rootK cc z, (masterK l).2) ∧ cc.length = 32 ∧ z.length = 32 ∧ Bytes cc ∧ Bytes z := by
  have hz : Bytes Z32k := fun x hx => by rw [(List.mem_replicate.1 (show x ∈ List.replicate 32 0 from hx)).2]; exact ⟨by omega, by omega⟩
  have h1 := seedH_length l
  have h2 := seedH_bytes l
  unfold masterK
  split
  · split
    · exact ⟨_, _, rfl, by rw [List.length_drop, h1], by rw [List.length_take, h1]; omega, fun x hx => h2 x (List.mem_of_mem_drop hx), fun x hx => h2 x (List.mem_of_mem_take hx)⟩
    · exact ⟨_, _, rfl, rfl, rfl, hz, hz⟩
  · exact ⟨_, _, rfl, rfl, rfl, hz, hz⟩
theorem hk_spare_rd {W : World} {q N : Nat} {zs : List Int} (hr : Row W q 0 ((spareL zs N).map (Value.int .u8))) (hl : q < W.heap.size) (hz : N = zs.length) (hN : N ≤ 100) : Rd W 1 (.slice (some ⟨q, 0, none⟩) N (N + 9)) N (zs.map (Value.int .u8)) :=
  Rd.of_row (by
    have := hr.take N
    rw [← List.map_take, spareL, List.take_append_of_le_length (by omega), List.take_of_length_le (by omega)] at this
    exact this) (by simp; omega) hl (by omega) (by unfold maxLen; omega)
theorem rd_cut {W : World} {a : Option Addr} {n cap : Nat} {l : List Int} (h : Rd W 1 (.slice a n cap) n (l.map (Value.int .u8))) (m : Nat) (hm : m ≤ n) : Rd W 1 (.slice a m cap) m ((l.take m).map (Value.int .u8)) := by
  have hl : l.length = n := by have := h.1; simpa using this
  obtain ⟨_, a', cap', e, h2, h3, h4, h5⟩ := h
  cases e
  refine ⟨by simp; omega, a, cap, rfl, by omega, h3, fun e => by have := h4 e; omega, fun ad e hn => ?_⟩
  obtain ⟨g, off, e2, hg, hr⟩ := h5 ad e (by omega)
  exact ⟨g, off, e2, hg, by rw [List.map_take]; exact hr.take m⟩
theorem cu_run_eql {P : Program} {o : Oper} {a : Act} {w : World} (t t' : TypeId) (x y : Operand) (ho : o.op = .binOp .eql t x y t') (A B : Array Value) (hx : a.eval x = .agg A) (hy : a.eval y = .agg B) (r : Bool)
    (hE : ∀ W, (Op.equalIn 10000 t (.agg A) (.agg B)).run P W = .ok r W) (hm : P.eqGuardType P.depth t = false) : (execOp a.eval o).run P w = .ok (.value (.bool r)) w := by
  unfold execOp
  simp only [ho, hx, hy]
  simp only [Sem.run_bind, Sem.run_pure, run_eqGuard_agg _ _ _ _ _ _ _ hm, run_eql_struct, hE, Result.andThen_ok]
set_option maxRecDepth 100000 in
set_option maxHeartbeats 8000000 in
theorem masters_any (a : Option Addr) (n0 cap : Nat) (l0 : List Int) (w : World) (h : Rd w 1 (.slice a n0 cap) n0 (l0.map (Value.int .u8))) (hb : Bytes l0) : Calls Tryd.prog 3 #[.slice a n0 cap] w fun e w' => e = .returned (.bool true) ∧ Keeps w w' := by
  have hl0 : l0.length = n0 := by have := h.1; simpa using this
  have hsp : ∃ (l : List Int) (N : Nat), N = l.length ∧ Rd w 1 (.slice a N cap) N (l.map (Value.int .u8)) ∧ Bytes l ∧ N ≤ 100 ∧ ((100 < n0 ∧ N = 100) ∨ (¬ 100 < n0 ∧ n0 = N)) := by
    by_cases hl : 100 < n0
    · exact ⟨l0.take 100, 100, by simp; omega, rd_cut h 100 (by omega), fun x hx => hb x (List.mem_of_mem_take hx), Nat.le_refl _, .inl ⟨hl, rfl⟩⟩
    · exact ⟨l0, n0, hl0.symm, h, hb, by omega, .inr ⟨hl, rfl⟩⟩
  have hcm : n0 ≤ maxLen := by
    obtain ⟨_, a', c', e, h2, h3, _⟩ := h
    cases e; omega
  have hcp : n0 ≤ cap := by
    obtain ⟨_, a', c', e, h2, h3, _⟩ := h
    cases e; omega
  have hcx : cap ≤ maxLen := by
    obtain ⟨_, a', c', e, h2, h3, _⟩ := h
    cases e; omega
  unfold maxLen at hcm hcx
  obtain ⟨l, N, hN, hrd, hbl, hl5, hcase⟩ := hsp
  clear h hb hl0
  have HRD := Lib.hid (fun W (hk : Keeps w W) => hrd.keeps hk)
  have HBY := Lib.hid hbl
  have HAW := Lib.hid awake_any
  have HN := Lib.hid hN
  obtain ⟨CC, ZZ, hform, hcl, hzl, hcb, hzb⟩ := masterK_form l
  have HMA := Lib.hid (fun (v : Value) W hr => master_any v N l W hr hbl hN)
  have HRM := Lib.hid (fun (v : Value) W hr => rmaster_any v N l W hr hbl hN)
  rw [hform] at HMA HRM
  simp only at HMA HRM
  clear hform hN hrd hbl
  generalize (masterK l).2 = ER at *
  have HTO := Lib.hid (told_any CC ZZ hcl hzl)
  have HEQ := Lib.hid (fun W => root_equal W CC ZZ hcl hzl hcb hzb)
  have HSZ := Lib.hid (sz_root hcl hzl); have HRSZ := Lib.hid (sz_rroot hcl hzl)
  have HLN := Lib.hid (show (rootK CC ZZ).length = (rootK Z32k Z32k).length by rw [rootK_length hcl hzl]; rfl)
  have HON := Lib.hid (rootK_one CC ZZ)
  clear hcl hzl hcb hzb
  generalize rootK CC ZZ = K at *
  rcases hcase with ⟨hb, he⟩ | ⟨hb, he2⟩
  all_goals
    first | (have he3 := he2.symm; subst he3) | (have HE5 := Lib.hid he; clear he)
    go_enter Tryd.func3, Tryd.ntmps3
    go_upto_region 5 with (go_at_call 5; refine (HAW.out _).mono ?_; rintro e W1 ⟨rfl, hk1⟩; have HK1 := Lib.hid hk1; clear hk1)
    try rw [← HE5.out]
    clear hb
    go_upto_region 6 with (go_at_call 6; refine (spare_any _ _ l _ (HRD.out _ HK1.out) (by omega)).mono ?_; rintro e W2 ⟨rfl, hk2, hl2, hs2⟩; have HK2 := Lib.hid (HK1.out.trans hk2); have HS2 := Lib.hid hs2; clear hk2 hs2)
    obtain ⟨q, hq⟩ : ∃ q, q = W1.heap.size := ⟨_, rfl⟩
    rw [← hq] at HS2 hl2 ⊢
    clear hq
    have HRP := Lib.hid (hk_spare_rd HS2.out hl2 HN.out hl5)
    clear hl2
    go_upto_region 7 with (first
      | (go_at_call 7; refine (HMA.out _ _ HRP.out).mono ?_; rintro r W3 ⟨rfl, hk3⟩; have HK3 := Lib.hid hk3; clear hk3)
      | (refine wpList_store_row rfl 31 (.tmp 5) (.tmp 24) rfl W3.heap.size 0 rfl (rootK Z32k Z32k) K rfl (Row.new _ _ _ rfl) HLN.out HSZ.out HON.out ?_; intro W4 hr4 hc4; have HR4 := Lib.hid hr4; have HK4 := Lib.hid (nm_keeps_chg (nm_keeps_alloc (Keeps.refl W3) _) hc4 (Nat.le_refl _)); clear hr4 hc4))
    generalize W3.heap.size = pb at *
    have HK24 := Lib.hid (HK3.out.trans HK4.out)
    have HK04 := Lib.hid (HK2.out.trans HK24.out)
    clear HK3 HK4
    go_upto_region 8 with (first
      | (go_at_call 8; refine (HRM.out _ _ (HRD.out _ HK04.out)).mono ?_; rintro r W5 ⟨rfl, hk5⟩; have HK5 := Lib.hid hk5; clear hk5)
      | (refine wpList_store_row rfl 35 (.tmp 7) (.tmp 29) rfl W5.heap.size 0 rfl (rootK Z32k Z32k) K rfl (Row.new _ _ _ rfl) HLN.out HRSZ.out HON.out ?_; intro W6 hr6 hc6; have HR6 := Lib.hid hr6; have HK6 := Lib.hid (nm_keeps_chg (nm_keeps_alloc (Keeps.refl W5) _) hc6 (Nat.le_refl _)); clear hr6 hc6))
    generalize W5.heap.size = pr at *
    have HK46 := Lib.hid (HK5.out.trans HK6.out)
    have HR46 := Lib.hid (HR4.out.keeps HK46.out)
    have HK26 := Lib.hid (HK24.out.trans HK46.out)
    have HK06 := Lib.hid (HK04.out.trans HK46.out)
    have HKEPT := Lib.hid (fun W (hk : Keeps W6 W) => kept_any (.slice a N cap) N q (N + 9) l W (HRD.out _ (HK06.out.trans hk)) (by omega) (HS2.out.keeps (HK26.out.trans hk)))
    clear HK5 HK6 HR4 HK46 HMA HRM HS2 HRP HK24 HK04 HK2 HK1 HK26
    refine wp_region_head (S := fun W => Hid ((fun W' => Keeps W6 W') W)) 13 (by kernel_rfl) (by kernel_rfl) ?_ (fun hHeld => ?_)
    focus exact Lib.hid (keeps_drew1 (Keeps.refl _))
    refine wpAnyHL_take (i := 0) (oi := ?_) (v := ?_) ?_ ?_ ?_ ?_ ?_ ?_ ?_ ?_ ?_ (Or.inl ⟨?_, ?_⟩) ?_ ?_
    rotate_left 2
    focus (simp only [List.getElem?_toArray, List.getElem?_cons_succ, List.getElem?_cons_zero]; exact rfl)
    focus kernel_rfl
    focus kernel_rfl
    focus kernel_rfl
    focus kernel_rfl
    focus kernel_rfl
    focus kernel_rfl
    focus kernel_rfl
    focus (exact fun _ _ _ h => h)
    focus rfl
    focus (intro wSw hSw; (have hSw := hSw.out); (refine cu_run_load 31 (.tmp 5) ?_ pb 0 ?_ _ _ (HR46.out.keeps hSw) Tryd.underlying31 rfl HSZ.out) <;> rfl)
    focus assumption
    try simp only [Act.put, List.setIfInBounds_toArray, List.set_cons_zero, List.set_cons_succ]
    refine wpAnyHL_take (i := 2) (oi := ?_) (v := ?_) ?_ ?_ ?_ ?_ ?_ ?_ ?_ ?_ ?_ (Or.inl ⟨?_, ?_⟩) ?_ ?_
    rotate_left 2
    focus (simp only [List.getElem?_toArray, List.getElem?_cons_succ, List.getElem?_cons_zero]; exact rfl)
    focus kernel_rfl
    focus kernel_rfl
    focus kernel_rfl
    focus kernel_rfl
    focus kernel_rfl
    focus kernel_rfl
    focus kernel_rfl
    focus (exact fun _ _ _ h => h)
    focus rfl
    focus (intro wSw hSw; (have hSw := hSw.out); (refine cu_run_load 35 (.tmp 7) ?_ pr 0 ?_ _ _ (HR6.out.keeps hSw) Tryd.underlying35 rfl HRSZ.out) <;> rfl)
    focus assumption
    try simp only [Act.put, List.setIfInBounds_toArray, List.set_cons_zero, List.set_cons_succ]
    refine wpAnyHL_one (i := 1) (o := ?_) (by kernel_rfl) (by kernel_rfl) ?_ ?_
    rotate_left 1
    focus (simp only [List.getElem?_toArray, List.getElem?_cons_succ, List.getElem?_cons_zero]; exact rfl)
    go_wp2_with (go_at_call 9; refine (HTO.out _).mono ?_; rintro r W7 ⟨rfl, hk7⟩; have HK7 := Lib.hid (hHeld.out.trans hk7); clear hk7)
    try dsimp only [StepQ]
    refine ⟨?_, fun hHeld => ?_⟩
    focus (exact Lib.hid (HK7.out))
    try simp only [Act.put, List.setIfInBounds_toArray, List.set_cons_zero, List.set_cons_succ]
    refine wpAnyHL_take (i := 3) (oi := ?_) (v := ?_) ?_ ?_ ?_ ?_ ?_ ?_ ?_ ?_ ?_ (Or.inl ⟨?_, ?_⟩) ?_ ?_
    rotate_left 2
    focus (simp only [List.getElem?_toArray, List.getElem?_cons_succ, List.getElem?_cons_zero]; exact rfl)
    focus kernel_rfl
    focus kernel_rfl
    focus kernel_rfl
    focus kernel_rfl
    focus kernel_rfl
    focus kernel_rfl
    focus kernel_rfl
    focus (exact fun _ _ _ h => h)
    focus rfl
    focus (intro wSw hSw; (have hSw := hSw.out); (refine cu_run_eql 35 35 (.tmp 32) (.tmp 33) ?_ _ _ ?_ ?_ true HEQ.out (by kernel_rfl)) <;> rfl)
    focus assumption
    try simp only [Act.put, List.setIfInBounds_toArray, List.set_cons_zero, List.set_cons_succ]
    refine wpAnyHL_take (i := 4) (oi := ?_) (v := ?_) ?_ ?_ ?_ ?_ ?_ ?_ ?_ ?_ ?_ (Or.inl ⟨?_, ?_⟩) ?_ ?_
    rotate_left 2
    focus (simp only [List.getElem?_toArray, List.getElem?_cons_succ, List.getElem?_cons_zero]; exact rfl)
    focus kernel_rfl
    focus kernel_rfl
    focus kernel_rfl
    focus kernel_rfl
    focus kernel_rfl
    focus kernel_rfl
    focus kernel_rfl
    focus (exact fun _ _ _ h => h)
    focus rfl
    focus ((intro wSw hSw; (have hSw := hSw.out); (try dsimp only at hSw); go_simp) <;> with_reducible rfl)
    focus assumption
    try simp only [Act.put, List.setIfInBounds_toArray, List.set_cons_zero, List.set_cons_succ]
    refine wpAnyHL_take (i := 5) (oi := ?_) (v := ?_) ?_ ?_ ?_ ?_ ?_ ?_ ?_ ?_ ?_ (Or.inl ⟨?_, ?_⟩) ?_ ?_
    rotate_left 2
    focus (simp only [List.getElem?_toArray, List.getElem?_cons_succ, List.getElem?_cons_zero]; exact rfl)
    focus kernel_rfl
    focus kernel_rfl
    focus kernel_rfl
    focus kernel_rfl
    focus kernel_rfl
    focus kernel_rfl
    focus kernel_rfl
    focus (exact fun _ _ _ h => h)
    focus rfl
    focus ((intro wSw hSw; (have hSw := hSw.out); (try dsimp only at hSw); go_simp) <;> with_reducible rfl)
    focus assumption
    try simp only [Act.put, List.setIfInBounds_toArray, List.set_cons_zero, List.set_cons_succ]
    refine wpAnyHL_take (i := 6) (oi := ?_) (v := ?_) ?_ ?_ ?_ ?_ ?_ ?_ ?_ ?_ ?_ (Or.inl ⟨?_, ?_⟩) ?_ ?_
    rotate_left 2
    focus (simp only [List.getElem?_toArray, List.getElem?_cons_succ, List.getElem?_cons_zero]; exact rfl)
    focus kernel_rfl
    focus kernel_rfl
    focus kernel_rfl
    focus kernel_rfl
    focus kernel_rfl
    focus kernel_rfl
    focus kernel_rfl
    focus (exact fun _ _ _ h => h)
    focus rfl
    focus ((intro wSw hSw; (have hSw := hSw.out); (try dsimp only at hSw); go_simp) <;> with_reducible rfl)
    focus assumption
    try simp only [Act.put, List.setIfInBounds_toArray, List.set_cons_zero, List.set_cons_succ]
    refine wpAnyHL_take (i := 7) (oi := ?_) (v := ?_) ?_ ?_ ?_ ?_ ?_ ?_ ?_ ?_ ?_ (Or.inl ⟨?_, ?_⟩) ?_ ?_
    rotate_left 2
    focus (simp only [List.getElem?_toArray, List.getElem?_cons_succ, List.getElem?_cons_zero]; exact rfl)
    focus kernel_rfl
    focus kernel_rfl
    focus kernel_rfl
    focus kernel_rfl
    focus kernel_rfl
    focus kernel_rfl
    focus kernel_rfl
    focus (exact fun _ _ _ h => h)
    focus rfl
    focus ((intro wSw hSw; (have hSw := hSw.out); (try dsimp only at hSw); go_simp) <;> with_reducible rfl)
    focus assumption
    try simp only [Act.put, List.setIfInBounds_toArray, List.set_cons_zero, List.set_cons_succ]
    refine wpAnyHL_take (i := 8) (oi := ?_) (v := ?_) ?_ ?_ ?_ ?_ ?_ ?_ ?_ ?_ ?_ (Or.inl ⟨?_, ?_⟩) ?_ ?_
    rotate_left 2
    focus (simp only [List.getElem?_toArray, List.getElem?_cons_succ, List.getElem?_cons_zero]; exact rfl)
    focus kernel_rfl
    focus kernel_rfl
    focus kernel_rfl
    focus kernel_rfl
    focus kernel_rfl
    focus kernel_rfl
    focus kernel_rfl
    focus (exact fun _ _ _ h => h)
    focus rfl
    focus ((intro wSw hSw; (have hSw := hSw.out); (try dsimp only at hSw); go_simp) <;> with_reducible rfl)
    focus assumption
    try simp only [Act.put, List.setIfInBounds_toArray, List.set_cons_zero, List.set_cons_succ]
    refine wpAnyHL_take (i := 9) (oi := ?_) (v := ?_) ?_ ?_ ?_ ?_ ?_ ?_ ?_ ?_ ?_ (Or.inl ⟨?_, ?_⟩) ?_ ?_
    rotate_left 2
    focus (simp only [List.getElem?_toArray, List.getElem?_cons_succ, List.getElem?_cons_zero]; exact rfl)
    focus kernel_rfl
    focus kernel_rfl
    focus kernel_rfl
    focus kernel_rfl
    focus kernel_rfl
    focus kernel_rfl
    focus kernel_rfl
    focus (exact fun _ _ _ h => h)
    focus rfl
    focus ((intro wSw hSw; (have hSw := hSw.out); (try dsimp only at hSw); go_simp) <;> with_reducible rfl)
    focus assumption
    try simp only [Act.put, List.setIfInBounds_toArray, List.set_cons_zero, List.set_cons_succ]
    refine wpAnyHL_take (i := 10) (oi := ?_) (v := ?_) ?_ ?_ ?_ ?_ ?_ ?_ ?_ ?_ ?_ (Or.inl ⟨?_, ?_⟩) ?_ ?_
    rotate_left 2
    focus (simp only [List.getElem?_toArray, List.getElem?_cons_succ, List.getElem?_cons_zero]; exact rfl)
    focus kernel_rfl
    focus kernel_rfl
    focus kernel_rfl
    focus kernel_rfl
    focus kernel_rfl
    focus kernel_rfl
    focus kernel_rfl
    focus (exact fun _ _ _ h => h)
    focus rfl
    focus ((intro wSw hSw; (have hSw := hSw.out); (try dsimp only at hSw); go_simp) <;> with_reducible rfl)
    focus assumption
    try simp only [Act.put, List.setIfInBounds_toArray, List.set_cons_zero, List.set_cons_succ]
    refine wpAnyHL_take (i := 11) (oi := ?_) (v := ?_) ?_ ?_ ?_ ?_ ?_ ?_ ?_ ?_ ?_ (Or.inl ⟨?_, ?_⟩) ?_ ?_
    rotate_left 2
    focus (simp only [List.getElem?_toArray, List.getElem?_cons_succ, List.getElem?_cons_zero]; exact rfl)
    focus kernel_rfl
    focus kernel_rfl
    focus kernel_rfl
    focus kernel_rfl
    focus kernel_rfl
    focus kernel_rfl
    focus kernel_rfl
    focus (exact fun _ _ _ h => h)
    focus rfl
    focus ((intro wSw hSw; (have hSw := hSw.out); (try dsimp only at hSw); go_simp) <;> with_reducible rfl)
    focus assumption
    try simp only [Act.put, List.setIfInBounds_toArray, List.set_cons_zero, List.set_cons_succ]
    refine wpAnyHL_one (i := 12) (o := ?_) (by kernel_rfl) (by kernel_rfl) ?_ ?_
    rotate_left 1
    focus (simp only [List.getElem?_toArray, List.getElem?_cons_succ, List.getElem?_cons_zero]; exact rfl)
    go_wp2_with (go_at_call 10; refine (HKEPT.out _ hHeld.out).mono ?_; rintro r W8 ⟨rfl, hk8⟩; have HK8 := Lib.hid (hHeld.out.trans hk8.keeps); clear hk8)
    try dsimp only [StepQ]
    refine ⟨?_, fun hHeld => ?_⟩
    focus (exact Lib.hid (HK8.out))
    try simp only [Act.put, List.setIfInBounds_toArray, List.set_cons_zero, List.set_cons_succ]
    refine wpAnyHL_done (by kernel_rfl) ?_
    try simp only [List.drop_succ_cons, List.drop_zero]
    go_wp2
    go_ret
    exact ⟨by first | rfl | exact ret_bool (by simp), HK06.out.trans hHeld.out⟩
end Go.Proofs.YthfepfpmkckdnaaDoor
