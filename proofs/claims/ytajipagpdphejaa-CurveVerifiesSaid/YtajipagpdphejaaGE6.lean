/- strongboxlaw05.CurveVerifies: the walk. No condition. -/
import Derived.Test.YtajipagpdphejaaGE5
namespace Go.Proofs.Ytajipagpdphejaa
set_option linter.unusedVariables false
set_option linter.unusedSimpArgs false
open Go Go.RowKit Cv Go.ChangeShapes Go.WideShapes Go.ChangeAt Go.WideMaps Go.ChangeMaps

theorem arrH : ArrKey Try.prog 44 5 32 := ⟨by kernel_rfl, by kernel_rfl, by kernel_rfl, by kernel_rfl⟩
theorem kept_keeps (v : Value) (n q cap : Nat) (zs : List Int) (w : World) (hr : Rd w 1 v n (zs.map (Value.int .u8))) (hn : n ≤ 35184372088832) (hq : Row w q 0 ((spareL zs n).map (Value.int .u8))) :
    Calls Try.prog 16 #[.slice (some ⟨q, 0, none⟩) (n + 9) cap, v] w fun e w' => e = .returned (.bool true) ∧ Keeps w w' := (kept_any v n q cap zs w hr hn hq).mono fun _ _ h => ⟨h.1, h.2.keeps⟩
theorem sz_hash' : (Try.prog.info? 44).map (·.size) = some 32 := by kernel_rfl
set_option maxRecDepth 100000 in
set_option maxHeartbeats 8000000 in
theorem verifies_any (M : List Int) (hM : Bytes M) (lM : M.length = 32) (a : Option Addr) (n0 cap : Nat) (l0 : List Int) (a' : Option Addr) (n0' cap' : Nat) (l0' : List Int) (w : World) (h : Rd w 1 (.slice a n0 cap) n0 (l0.map (Value.int .u8))) (hb : Bytes l0) (h' : Rd w 1 (.slice a' n0' cap') n0' (l0'.map (Value.int .u8))) (hb' : Bytes l0') :
    Calls Try.prog 4 #[.slice a n0 cap, .agg (M.map (Value.int .u8)).toArray, .slice a' n0' cap'] w fun e w' => e = .returned (.bool true) ∧ Keeps w w' := by
  obtain ⟨hcm, hcp, hcx⟩ := rd_bounds h
  obtain ⟨hcm', hcp', hcx'⟩ := rd_bounds h'
  unfold maxLen at hcm hcx hcm' hcx'
  obtain ⟨l, N, hN, hrd, hbl, hl5, hcase⟩ := rd_cases h hb 70
  obtain ⟨l', N', hN', hrd', hbl', hl5', hcase'⟩ := rd_cases h' hb' 70
  clear h hb h' hb'
  have HRD := Lib.hid (fun W (hk : Keeps w W) => hrd.keeps hk)
  have HRD' := Lib.hid (fun W (hk : Keeps w W) => hrd'.keeps hk)
  have HAW := Lib.hid awake_any
  have HN := Lib.hid hN; have HN' := Lib.hid hN'
  have HV := Lib.hid (fun (v v' : Value) W (hv : Rd W 1 v N (l.map (Value.int .u8))) (hv' : Rd W 1 v' N' (l'.map (Value.int .u8))) => verify_any v v' l M l' hbl hM hbl' lM W (by rw [hN] at hv; exact hv) (by rw [hN'] at hv'; exact hv'))
  have HR := Lib.hid (fun (v v' : Value) W (hv : Rd W 1 v N (l.map (Value.int .u8))) (hv' : Rd W 1 v' N' (l'.map (Value.int .u8))) => rverify_any v v' l M l' hbl hM hbl' lM W (by rw [hN] at hv; exact hv) (by rw [hN'] at hv'; exact hv'))
  generalize verV l M l' = VV at *
  clear hN hN' hrd hrd' hbl hbl' hM
  have z1 : (VV == VV) = true := by simp
  rcases hcase with ⟨hb, he⟩ | ⟨hb, he2⟩
  all_goals
    first | (have he3 := he2.symm; subst he3) | (have HE5 := Lib.hid he; clear he)
    rcases hcase' with ⟨hb', he'⟩ | ⟨hb', he2'⟩
    all_goals
      first | (have he3' := he2'.symm; subst he3') | (have HE6 := Lib.hid he'; clear he')
      go_enter Try.func4, Try.ntmps4
      go_upto_region 1 with (fail)
      refine cu_rows1 (fun W hk hra hs => ?_)
      obtain ⟨p, hp⟩ : ∃ p, p = w.heap.size := ⟨_, rfl⟩
      rw [← hp] at hra hs ⊢
      have HRM := Lib.hid (show Row W p 0 (M.map (Value.int .u8)) from hra); have HKW := Lib.hid hk
      clear hp hra hk hs
      go_upto_region 3 with (go_at_call 9; refine (HAW.out _).mono ?_; rintro e W1 ⟨rfl, hk1⟩; have HK1 := Lib.hid hk1; clear hk1)
      have HRM := Lib.hid (HRM.out.keeps HK1.out); have HKW := Lib.hid (HKW.out.trans HK1.out)
      clear HK1
      go_upto_region 5 with (fail)
      try rw [← HE5.out]
      go_upto_region 7 with (fail)
      try rw [← HE6.out]
      clear hb hb'
      go_upto_region 8 with (go_at_call 14; refine (spare_any _ _ l _ (HRD.out _ HKW.out) (by omega)).mono ?_; rintro e W8 ⟨rfl, hk2, hl2, hs2⟩; have HK8 := Lib.hid (HKW.out.trans hk2); have HKB := Lib.hid hk2; have HS8 := Lib.hid hs2; have HL8 := Lib.hid hl2; clear hk2 hs2 hl2)
      generalize W1.heap.size = q1 at *
      have HKW := HK8
      have HRM := Lib.hid (HRM.out.keeps HKB.out)
      go_upto_region 9 with (go_at_call 14; refine (spare_any _ _ l' _ (HRD'.out _ HKW.out) (by omega)).mono ?_; rintro e W9 ⟨rfl, hk2, hl2, hs2⟩; have HK9 := Lib.hid (HKW.out.trans hk2); have HKC := Lib.hid hk2; have HS9 := Lib.hid hs2; have HL9 := Lib.hid hl2; clear hk2 hs2 hl2)
      generalize W8.heap.size = q2 at *
      have HKW := HK9
      have HRM := Lib.hid (HRM.out.keeps HKC.out); have HS8 := Lib.hid (HS8.out.keeps HKC.out)
      have hq1 : q1 < W9.heap.size := HS8.out.lt (by intro e; have h1 := congrArg List.length e; rw [List.length_map, spareL_length _ _ HN.out.symm] at h1; simp at h1)
      have HI1 := Lib.hid (fun W (hk : Keeps W9 W) => (spare_rd HS8.out hq1 HN.out (by omega)).keeps hk)
      have HI2 := Lib.hid (fun W (hk : Keeps W9 W) => (spare_rd HS9.out HL9.out HN'.out (by omega)).keeps hk)
      refine wp_region_keep 19 [] [0, 1, 2, 3, 4, 5, 6, 7, 8, 9, 10, 11, 12, 13, 14, 15, 16, 17, 18] (fun _ => []) (by kernel_rfl) (by kernel_rfl) (by intro i hi; cases hi) ?_
      refine keep_pure (o := ?_) (v := ?_) ?_ ?_ ?_ ?_
      rotate_left 2
      focus (simp only [List.getElem?_toArray, List.getElem?_cons_succ, List.getElem?_cons_zero]; exact rfl)
      focus rfl
      focus ((intro wS hS; go_simp) <;> with_reducible rfl)
      try simp only [Act.put, List.setIfInBounds_toArray, List.set_cons_zero, List.set_cons_succ]
      refine keep_pure (o := ?_) (v := ?_) ?_ ?_ ?_ ?_
      rotate_left 2
      focus (simp only [List.getElem?_toArray, List.getElem?_cons_succ, List.getElem?_cons_zero]; exact rfl)
      focus rfl
      focus (intro wS hS; (refine cu_run_load 44 (.tmp 4) ?_ p 0 ?_ (M.map (Value.int .u8)) _ (HRM.out.keeps hS) Try.underlying44 rfl (by rw [List.length_map, lM]; exact sz_hash')) <;> rfl)
      try simp only [Act.put, List.setIfInBounds_toArray, List.set_cons_zero, List.set_cons_succ]
      refine keep_pure (o := ?_) (v := ?_) ?_ ?_ ?_ ?_
      rotate_left 2
      focus (simp only [List.getElem?_toArray, List.getElem?_cons_succ, List.getElem?_cons_zero]; exact rfl)
      focus rfl
      focus ((intro wS hS; go_simp) <;> with_reducible rfl)
      try simp only [Act.put, List.setIfInBounds_toArray, List.set_cons_zero, List.set_cons_succ]
      refine keep_call (o := ?_) (f := ?_) (args := ?_) (v := ?_) ?_ ?_ ?_ ?_ ?_
      rotate_left 4
      focus (simp only [List.getElem?_toArray, List.getElem?_cons_succ, List.getElem?_cons_zero]; exact rfl)
      focus rfl
      focus (intro wS; go_simp; refine ⟨?_, ?_⟩ <;> with_reducible rfl)
      focus (intro wS hS; exact HV.out _ _ wS (HI1.out wS hS) (HI2.out wS hS))
      try simp only [Act.put, List.setIfInBounds_toArray, List.set_cons_zero, List.set_cons_succ]
      refine keep_pure (o := ?_) (v := ?_) ?_ ?_ ?_ ?_
      rotate_left 2
      focus (simp only [List.getElem?_toArray, List.getElem?_cons_succ, List.getElem?_cons_zero]; exact rfl)
      focus rfl
      focus ((intro wS hS; go_simp) <;> with_reducible rfl)
      try simp only [Act.put, List.setIfInBounds_toArray, List.set_cons_zero, List.set_cons_succ]
      refine keep_pure (o := ?_) (v := ?_) ?_ ?_ ?_ ?_
      rotate_left 2
      focus (simp only [List.getElem?_toArray, List.getElem?_cons_succ, List.getElem?_cons_zero]; exact rfl)
      focus rfl
      focus (intro wS hS; (refine cu_run_load 44 (.tmp 4) ?_ p 0 ?_ (M.map (Value.int .u8)) _ (HRM.out.keeps hS) Try.underlying44 rfl (by rw [List.length_map, lM]; exact sz_hash')) <;> rfl)
      try simp only [Act.put, List.setIfInBounds_toArray, List.set_cons_zero, List.set_cons_succ]
      refine keep_pure (o := ?_) (v := ?_) ?_ ?_ ?_ ?_
      rotate_left 2
      focus (simp only [List.getElem?_toArray, List.getElem?_cons_succ, List.getElem?_cons_zero]; exact rfl)
      focus rfl
      focus ((intro wS hS; go_simp) <;> with_reducible rfl)
      try simp only [Act.put, List.setIfInBounds_toArray, List.set_cons_zero, List.set_cons_succ]
      refine keep_call (o := ?_) (f := ?_) (args := ?_) (v := ?_) ?_ ?_ ?_ ?_ ?_
      rotate_left 4
      focus (simp only [List.getElem?_toArray, List.getElem?_cons_succ, List.getElem?_cons_zero]; exact rfl)
      focus rfl
      focus (intro wS; go_simp; refine ⟨?_, ?_⟩ <;> with_reducible rfl)
      focus (intro wS hS; exact HR.out _ _ wS (HRD.out _ (HKW.out.trans hS)) (HRD'.out _ (HKW.out.trans hS)))
      try simp only [Act.put, List.setIfInBounds_toArray, List.set_cons_zero, List.set_cons_succ]
      refine keep_pure (o := ?_) (v := ?_) ?_ ?_ ?_ ?_
      rotate_left 2
      focus (simp only [List.getElem?_toArray, List.getElem?_cons_succ, List.getElem?_cons_zero]; exact rfl)
      focus rfl
      focus ((intro wS hS; go_simp) <;> with_reducible rfl)
      try simp only [Act.put, List.setIfInBounds_toArray, List.set_cons_zero, List.set_cons_succ]
      refine keep_pure (o := ?_) (v := ?_) ?_ ?_ ?_ ?_
      rotate_left 2
      focus (simp only [List.getElem?_toArray, List.getElem?_cons_succ, List.getElem?_cons_zero]; exact rfl)
      focus rfl
      focus ((intro wS hS; go_simp) <;> with_reducible rfl)
      try simp only [Act.put, List.setIfInBounds_toArray, List.set_cons_zero, List.set_cons_succ]
      refine keep_pure (o := ?_) (v := ?_) ?_ ?_ ?_ ?_
      rotate_left 2
      focus (simp only [List.getElem?_toArray, List.getElem?_cons_succ, List.getElem?_cons_zero]; exact rfl)
      focus rfl
      focus ((intro wS hS; go_simp) <;> with_reducible rfl)
      try simp only [Act.put, List.setIfInBounds_toArray, List.set_cons_zero, List.set_cons_succ]
      refine keep_pure (o := ?_) (v := ?_) ?_ ?_ ?_ ?_
      rotate_left 2
      focus (simp only [List.getElem?_toArray, List.getElem?_cons_succ, List.getElem?_cons_zero]; exact rfl)
      focus rfl
      focus ((intro wS hS; go_simp) <;> with_reducible rfl)
      try simp only [Act.put, List.setIfInBounds_toArray, List.set_cons_zero, List.set_cons_succ]
      refine keep_call (o := ?_) (f := ?_) (args := ?_) (v := ?_) ?_ ?_ ?_ ?_ ?_
      rotate_left 4
      focus (simp only [List.getElem?_toArray, List.getElem?_cons_succ, List.getElem?_cons_zero]; exact rfl)
      focus rfl
      focus (intro wS; go_simp; refine ⟨?_, ?_⟩ <;> with_reducible rfl)
      focus (intro wS hS; exact kept_keeps _ _ q1 (N + 9) l wS (HRD.out _ (HKW.out.trans hS)) (by omega) (HS8.out.keeps hS))
      try simp only [Act.put, List.setIfInBounds_toArray, List.set_cons_zero, List.set_cons_succ]
      refine keep_pure (o := ?_) (v := ?_) ?_ ?_ ?_ ?_
      rotate_left 2
      focus (simp only [List.getElem?_toArray, List.getElem?_cons_succ, List.getElem?_cons_zero]; exact rfl)
      focus rfl
      focus ((intro wS hS; go_simp) <;> with_reducible rfl)
      try simp only [Act.put, List.setIfInBounds_toArray, List.set_cons_zero, List.set_cons_succ]
      refine keep_pure (o := ?_) (v := ?_) ?_ ?_ ?_ ?_
      rotate_left 2
      focus (simp only [List.getElem?_toArray, List.getElem?_cons_succ, List.getElem?_cons_zero]; exact rfl)
      focus rfl
      focus ((intro wS hS; go_simp) <;> with_reducible rfl)
      try simp only [Act.put, List.setIfInBounds_toArray, List.set_cons_zero, List.set_cons_succ]
      refine keep_pure (o := ?_) (v := ?_) ?_ ?_ ?_ ?_
      rotate_left 2
      focus (simp only [List.getElem?_toArray, List.getElem?_cons_succ, List.getElem?_cons_zero]; exact rfl)
      focus rfl
      focus ((intro wS hS; go_simp) <;> with_reducible rfl)
      try simp only [Act.put, List.setIfInBounds_toArray, List.set_cons_zero, List.set_cons_succ]
      refine keep_pure (o := ?_) (v := ?_) ?_ ?_ ?_ ?_
      rotate_left 2
      focus (simp only [List.getElem?_toArray, List.getElem?_cons_succ, List.getElem?_cons_zero]; exact rfl)
      focus rfl
      focus ((intro wS hS; go_simp) <;> with_reducible rfl)
      try simp only [Act.put, List.setIfInBounds_toArray, List.set_cons_zero, List.set_cons_succ]
      refine keep_call (o := ?_) (f := ?_) (args := ?_) (v := ?_) ?_ ?_ ?_ ?_ ?_
      rotate_left 4
      focus (simp only [List.getElem?_toArray, List.getElem?_cons_succ, List.getElem?_cons_zero]; exact rfl)
      focus rfl
      focus (intro wS; go_simp; refine ⟨?_, ?_⟩ <;> with_reducible rfl)
      focus (intro wS hS; exact kept_keeps _ _ q2 (N' + 9) l' wS (HRD'.out _ (HKW.out.trans hS)) (by omega) (HS9.out.keeps hS))
      try simp only [Act.put, List.setIfInBounds_toArray, List.set_cons_zero, List.set_cons_succ]
      refine keep_pure (o := ?_) (v := ?_) ?_ ?_ ?_ ?_
      rotate_left 2
      focus (simp only [List.getElem?_toArray, List.getElem?_cons_succ, List.getElem?_cons_zero]; exact rfl)
      focus rfl
      focus ((intro wS hS; go_simp) <;> with_reducible rfl)
      try simp only [Act.put, List.setIfInBounds_toArray, List.set_cons_zero, List.set_cons_succ]
      refine keep_nil ?_
      intro GG V9 hk1 hG
      clear hG
      simp only [putsA, dstAt, Act.put, ptrV, List.drop_succ_cons, List.drop_zero, List.getElem?_toArray, List.getElem?_cons_succ, List.getElem?_cons_zero, Option.bind_some, List.setIfInBounds_toArray, List.set_cons_zero, List.set_cons_succ]
      have HKW := Lib.hid (HKW.out.trans hk1)
      clear hk1
      go_wp2
      go_ret
      exact ⟨by first | rfl | exact ret_bool (by simp), HKW.out⟩
end Go.Proofs.Ytajipagpdphejaa
