/- The reference's Encode. -/
import Derived.Test.YtcodpdpeklammaaGreatDoorGB7
namespace Go.Proofs.YtcodpdpeklammaaGreatDoor
set_option linter.unusedVariables false
set_option linter.unusedSimpArgs false
open Go Go.RowKit

set_option maxRecDepth 100000 in
set_option maxHeartbeats 2000000 in
theorem renc_plain (S T R : Nat → Prop) (d : TxD) (iv ov : Value) (wit : Bool) (hc : wit = false ∨ (wit = true ∧ witnessedD d = false)) (hf : Fits d) (w : World) (h : RTx S T R w iv ov d) :
    Calls Tryz.prog 32 #[.agg #[.int .i32 d.ver, iv, ov, .int .u32 d.lock], .bool wit] w fun e w' => ∃ v n, e = .returned v ∧ Own w w' v n (leB (d.ver % 4294967296) 4 ++ insB d.ins ++ outsB d.outs ++ leB d.lock 4) := by
  have HT := Lib.hid h
  have hlock := h.lock
  obtain ⟨lk0, lk1⟩ := hlock
  obtain ⟨ia, ic, rfl, -⟩ := h.ins.any
  obtain ⟨oa, oc, rfl, -⟩ := h.outs.any
  clear h
  unfold Fits at hf
  have HW := Lib.hid (fun W (hk : Keeps w W) => rwitnessed_any S T R d _ _ W (HT.out.keeps hk))
  have HIN := Lib.hid (fun W (hk : Keeps w W) => rinputs_any S T R d _ _ (by omega) W (HT.out.keeps hk))
  have HOU := Lib.hid (fun W (hk : Keeps w W) => routputs_any S T R d _ _ (by omega) W (HT.out.keeps hk))
  have HL1 := Lib.hid (low_any (d.ver % 4294967296) (by omega) (by omega) 4 (by omega)); have HL2 := Lib.hid (low_any d.lock lk0 (by omega) 4 (by omega))
  have hm1 : IntKind.u32.wrap d.ver = d.ver % 4294967296 := by rw [IntKind.wrap_u32]
  have hm2 : IntKind.u64.wrap (d.ver % 4294967296) = d.ver % 4294967296 := by rw [IntKind.wrap_u64]; omega
  have hm3 : IntKind.u64.wrap d.lock = d.lock := by rw [IntKind.wrap_u64]; omega
  have hfl : (insB d.ins).length + (outsB d.outs).length ≤ 1000000000000 := by omega
  clear hf
  generalize leB (d.ver % 4294967296) 4 = LV at *
  generalize leB d.lock 4 = LK at *
  generalize insB d.ins = IB at *
  generalize outsB d.outs = OB at *
  generalize d.ver % 4294967296 = vu at *
  have HC := Lib.hid hc
  clear hc
  go_enter Tryz.func32, Tryz.ntmps32
  go_upto_region 1 with (fail)
  refine wp_rows1 (fun W0 hk hr1 hsz => ?_)
  simp only at hr1
  obtain ⟨p, hp⟩ : ∃ p, p = w.heap.size := ⟨_, rfl⟩
  rw [← hp] at hr1 ⊢
  clear hp hsz
  obtain ⟨b0, b1, b2, b3⟩ := hr1.cell4
  have HK := Lib.hid hk; have HR := Lib.hid hr1
  clear hk hr1
  go_upto_region 2 with (go_at_call 33; refine (HL1.out _).mono ?_; rintro e W1 ⟨v1, rfl, hO1⟩; obtain ⟨a1, c1, rfl⟩ := hO1.any; have HO1 := Lib.hid hO1; clear hO1)
  obtain ⟨b0, b1, b2, b3⟩ := (HR.out.keeps HO1.out.keeps).cell4
  rcases HC.out with rfl | ⟨rfl, hwd⟩
  focus
    go_upto_region 5 with (fail)
    have hown : Own W0 W1 (.slice a1 4 c1) 4 LV := HO1.out
    generalize W1 = W2 at *
  rotate_left
  focus
    rw [hwd] at HW
    go_upto_region 5 with (go_at_call 58; refine (HW.out _ (HK.out.trans HO1.out.keeps)).mono ?_; rintro e W2 ⟨rfl, hk2⟩; have HK2 := Lib.hid hk2; clear hk2)
    have hown : Own W0 W2 (.slice a1 4 c1) 4 LV := HO1.out.step HK2.out
  all_goals
    clear b0 b1 b2 b3
    have hcell : ∀ W, Keeps W0 W → W.cell? ⟨p, 0, none⟩ = some (.int .i32 d.ver) ∧ W.cell? ⟨p, 1, none⟩ = some (.slice ia d.ins.length ic) ∧ W.cell? ⟨p, 2, none⟩ = some (.slice oa d.outs.length oc) ∧ W.cell? ⟨p, 3, none⟩ = some (.int .u32 d.lock) := fun W hk => (HR.out.keeps hk).cell4
    have HCE := Lib.hid hcell; have HOWN := Lib.hid hown
    clear hcell hown
    refine wp_region_head (S := fun W => Hid ((fun W => Keeps W0 W ∧ W.cell? ⟨p, 0, none⟩ = some (.int .i32 d.ver) ∧ W.cell? ⟨p, 1, none⟩ = some (.slice ia d.ins.length ic) ∧ W.cell? ⟨p, 2, none⟩ = some (.slice oa d.outs.length oc) ∧ W.cell? ⟨p, 3, none⟩ = some (.int .u32 d.lock)) W)) 6 (by kernel_rfl) (by kernel_rfl) ?_ (fun hHeld => ?_)
    focus exact Lib.hid ⟨keeps_drew HOWN.out.keeps, HCE.out _ (keeps_drew HOWN.out.keeps)⟩
    refine wpAnyHL_take (i := 0) (oi := ?_) (v := ?_) ?_ ?_ ?_ ?_ ?_ ?_ ?_ ?_ ?_ (Or.inl ⟨?_, ?_⟩) ?_ ?_
    rotate_left 2
    focus (simp only [List.getElem?_toArray, List.getElem?_cons_succ, List.getElem?_cons_zero]; exact rfl)
    iterate 7 focus kernel_rfl
    focus (exact fun _ _ _ h => h)
    focus rfl
    focus ((intro wSw hSw; (have hSw := hSw.out); (try dsimp only at hSw); go_simp) <;> with_reducible rfl)
    focus assumption
    try simp only [Act.put, List.setIfInBounds_toArray, List.set_cons_zero, List.set_cons_succ]
    refine wpAnyHL_take (i := 1) (oi := ?_) (v := ?_) ?_ ?_ ?_ ?_ ?_ ?_ ?_ ?_ ?_ (Or.inl ⟨?_, ?_⟩) ?_ ?_
    rotate_left 2
    focus (simp only [List.getElem?_toArray, List.getElem?_cons_succ, List.getElem?_cons_zero]; exact rfl)
    iterate 7 focus kernel_rfl
    focus (exact fun _ _ _ h => h)
    focus rfl
    focus ((intro wSw hSw; (have hSw := hSw.out); (try dsimp only at hSw); go_simp) <;> with_reducible rfl)
    focus assumption
    try simp only [Act.put, List.setIfInBounds_toArray, List.set_cons_zero, List.set_cons_succ]
    refine wpAnyHL_take (i := 4) (oi := ?_) (v := ?_) ?_ ?_ ?_ ?_ ?_ ?_ ?_ ?_ ?_ (Or.inl ⟨?_, ?_⟩) ?_ ?_
    rotate_left 2
    focus (simp only [List.getElem?_toArray, List.getElem?_cons_succ, List.getElem?_cons_zero]; exact rfl)
    iterate 7 focus kernel_rfl
    focus (exact fun _ _ _ h => h)
    focus rfl
    focus ((intro wSw hSw; (have hSw := hSw.out); (try dsimp only at hSw); go_simp) <;> with_reducible rfl)
    focus assumption
    try simp only [Act.put, List.setIfInBounds_toArray, List.set_cons_zero, List.set_cons_succ]
    refine wpAnyHL_one (i := 2) (o := ?_) (by kernel_rfl) (by kernel_rfl) ?_ ?_
    rotate_left 1
    focus (simp only [List.getElem?_toArray, List.getElem?_cons_succ, List.getElem?_cons_zero]; exact rfl)
    go_wp2_with (go_at_call 59; refine (HIN.out _ (HK.out.trans hHeld.out.1)).mono ?_; rintro e W6 ⟨v6, rfl, hO6⟩; obtain ⟨a6, c6, rfl⟩ := hO6.any; have HO6 := Lib.hid hO6; clear hO6)
    try dsimp only [StepQ]
    refine ⟨?_, fun hHeld => ?_⟩
    focus (exact Lib.hid (⟨hHeld.out.1.trans HO6.out.keeps, HCE.out _ (hHeld.out.1.trans HO6.out.keeps)⟩))
    try simp only [Act.put, List.setIfInBounds_toArray, List.set_cons_zero, List.set_cons_succ]
    refine wpAnyHL_one (i := 3) (o := ?_) (by kernel_rfl) (by kernel_rfl) ?_ ?_
    rotate_left 1
    focus (simp only [List.getElem?_toArray, List.getElem?_cons_succ, List.getElem?_cons_zero]; exact rfl)
    go_wp2_with (refine own_append rfl _ _ rfl (HOWN.out.step (keeps_drew (Keeps.refl _))) HO6.out.keeps rfl _ rfl IB.length IB (HO6.out.rd.src Tryz.underlying32 (int_oneCell _)) (by omega) ?_; intro v8 w8 hO8 hG8; obtain ⟨a8, c8, rfl⟩ := hO8.any; have HO8 := Lib.hid hO8; clear hO8 hG8)
    try dsimp only [StepQ]
    refine ⟨?_, fun hHeld => ?_⟩
    focus (exact Lib.hid (⟨HO8.out.keeps, HCE.out _ HO8.out.keeps⟩))
    try simp only [Act.put, List.setIfInBounds_toArray, List.set_cons_zero, List.set_cons_succ]
    refine wpAnyHL_one (i := 5) (o := ?_) (by kernel_rfl) (by kernel_rfl) ?_ ?_
    rotate_left 1
    focus (simp only [List.getElem?_toArray, List.getElem?_cons_succ, List.getElem?_cons_zero]; exact rfl)
    go_wp2_with (go_at_call 60; refine (HOU.out _ (HK.out.trans hHeld.out.1)).mono ?_; rintro e W9 ⟨v9, rfl, hO9⟩; obtain ⟨a9, c9, rfl⟩ := hO9.any; have HO9 := Lib.hid hO9; clear hO9)
    try dsimp only [StepQ]
    refine ⟨?_, fun hHeld => ?_⟩
    focus (exact Lib.hid (⟨hHeld.out.1.trans HO9.out.keeps, HCE.out _ (hHeld.out.1.trans HO9.out.keeps)⟩))
    try simp only [Act.put, List.setIfInBounds_toArray, List.set_cons_zero, List.set_cons_succ]
    refine wpAnyHL_done (by kernel_rfl) ?_
    try simp only [List.drop_succ_cons, List.drop_zero]
    go_wp2_with (refine own_append rfl _ _ rfl HO8.out HO9.out.keeps rfl _ rfl OB.length OB (HO9.out.rd.src Tryz.underlying32 (int_oneCell _)) (by omega) ?_; intro v10 w10 hO10 hG10; obtain ⟨a10, c10, rfl⟩ := hO10.any; obtain ⟨d0, d1, d2, d3⟩ := HCE.out _ hO10.keeps; have HO10 := Lib.hid hO10; clear hO10 hG10)
    go_loopw [5, 6] (fun vv c wr => vv = .slice a10 (4 + IB.length + OB.length) c10 ∧ c = .int .i64 0 ∧ wr = w10) (fun _ _ _ => 0)
    case atStart => exact ⟨rfl, rfl, rfl⟩
    case round =>
      obtain ⟨rfl, rfl, rfl⟩ := hrel
      clear hHeld
      by_cases hl0 : 0 < d.ins.length
      all_goals
        go_wp2_with (first | (go_at_call 33; refine (HL2.out _).mono ?_; rintro e W7 ⟨v7, rfl, hO7⟩; obtain ⟨a7, c7, rfl⟩ := hO7.any; have HO7 := Lib.hid hO7; clear hO7) | (refine own_append rfl _ _ rfl HO10.out HO7.out.keeps rfl _ rfl 4 LK (HO7.out.rd.src Tryz.underlying32 (int_oneCell _)) (by omega) ?_; intro v12 w12 hO12 hG12; obtain ⟨a12, c12, rfl⟩ := hO12.any; have HO12 := Lib.hid hO12; clear hO12 hG12))
        go_ret
        exact ⟨_, _, rfl, Own.keepsW HK.out HO12.out⟩
set_option maxRecDepth 100000 in
set_option maxHeartbeats 4000000 in
theorem renc_wit (S T R : Nat → Prop) (d : TxD) (iv ov : Value) (hwd : witnessedD d = true) (hf : Fits d) (w : World) (h : RTx S T R w iv ov d) :
    Calls Tryz.prog 32 #[.agg #[.int .i32 d.ver, iv, ov, .int .u32 d.lock], .bool true] w fun e w' => ∃ v n, e = .returned v ∧ Own w w' v n (leB (d.ver % 4294967296) 4 ++ [0, 1] ++ insB d.ins ++ outsB d.outs ++ d.ins.flatMap witB ++ leB d.lock 4) := by
  have HT := Lib.hid h; have HI := Lib.hid h.ins
  have hlock := h.lock
  obtain ⟨lk0, lk1⟩ := hlock
  obtain ⟨ia, ic, rfl, hic, hicm, -⟩ := h.ins.any
  obtain ⟨oa, oc, rfl, -⟩ := h.outs.any
  have hism : d.ins.length * 96 ≤ 140737488355328 := by obtain ⟨_, _, h⟩ := h.ins; exact h.small
  clear h
  unfold Fits at hf
  have HW := Lib.hid (fun W (hk : Keeps w W) => rwitnessed_any S T R d _ _ W (HT.out.keeps hk))
  rw [hwd] at HW
  have HIN := Lib.hid (fun W (hk : Keeps w W) => rinputs_any S T R d _ _ (by omega) W (HT.out.keeps hk))
  have HOU := Lib.hid (fun W (hk : Keeps w W) => routputs_any S T R d _ _ (by omega) W (HT.out.keeps hk))
  have HL1 := Lib.hid (low_any (d.ver % 4294967296) (by omega) (by omega) 4 (by omega)); have HL2 := Lib.hid (low_any d.lock lk0 (by omega) 4 (by omega))
  have hm1 : IntKind.u32.wrap d.ver = d.ver % 4294967296 := by rw [IntKind.wrap_u32]
  have hm2 : IntKind.u64.wrap (d.ver % 4294967296) = d.ver % 4294967296 := by rw [IntKind.wrap_u64]; omega
  have hm3 : IntKind.u64.wrap d.lock = d.lock := by rw [IntKind.wrap_u64]; omega
  have hfl : (insB d.ins).length + (outsB d.outs).length ≤ 1000000000000 := by omega
  have hpre : ∀ i, (insB d.ins).length + (outsB d.outs).length + ((d.ins.take i).flatMap witB).length ≤ 1000000000000 := fun i => by have := flat_take_le witB d.ins i; omega
  have HPRE := Lib.hid hpre
  clear hf hpre
  generalize leB (d.ver % 4294967296) 4 = LV at *
  generalize leB d.lock 4 = LK at *
  generalize insB d.ins = IB at *
  generalize outsB d.outs = OB at *
  generalize d.ver % 4294967296 = vu at *
  go_enter Tryz.func32, Tryz.ntmps32
  go_upto_region 1 with (fail)
  refine wp_rows1 (fun W0 hk hr1 hsz => ?_)
  simp only at hr1
  obtain ⟨p, hp⟩ : ∃ p, p = w.heap.size := ⟨_, rfl⟩
  rw [← hp] at hr1 ⊢
  clear hp hsz
  obtain ⟨b0, b1, b2, b3⟩ := hr1.cell4
  have HK := Lib.hid hk; have HR := Lib.hid hr1
  clear hk hr1
  go_upto_region 2 with (go_at_call 33; refine (HL1.out _).mono ?_; rintro e W1 ⟨v1, rfl, hO1⟩; obtain ⟨a1, c1, rfl⟩ := hO1.any; have HO1 := Lib.hid hO1; clear hO1)
  obtain ⟨b0, b1, b2, b3⟩ := (HR.out.keeps HO1.out.keeps).cell4
  go_upto_region 4 with (go_at_call 58; refine (HW.out _ (HK.out.trans HO1.out.keeps)).mono ?_; rintro e W2 ⟨rfl, hk2⟩; have HK2 := Lib.hid hk2; clear hk2)
  have hn2 : Own W2 (W2.alloc (.cells #[.int .u8 0, .int .u8 1] 5)) (.slice (some ⟨W2.heap.size, 0, none⟩) 2 2) 2 [0, 1] := Own.news (Keeps.refl W2) [0, 1] (by simp [maxLen]) _ _ rfl
  have HN2 := Lib.hid hn2
  clear hn2
  go_upto_region 5 with (refine own_append rfl _ _ rfl (HO1.out.step HK2.out) HN2.out.keeps rfl _ rfl 2 [0, 1] (HN2.out.rd.src Tryz.underlying32 (int_oneCell _)) (by omega) ?_; intro v3 w3 hO3 hG3; obtain ⟨a3, c3, rfl⟩ := hO3.any; have HOWN := Lib.hid hO3; clear hO3 hG3)
  clear b0 b1 b2 b3
  have hcell : ∀ W, Keeps W0 W → W.cell? ⟨p, 0, none⟩ = some (.int .i32 d.ver) ∧ W.cell? ⟨p, 1, none⟩ = some (.slice ia d.ins.length ic) ∧ W.cell? ⟨p, 2, none⟩ = some (.slice oa d.outs.length oc) ∧ W.cell? ⟨p, 3, none⟩ = some (.int .u32 d.lock) := fun W hk => (HR.out.keeps hk).cell4
  have HCE := Lib.hid hcell
  clear hcell
  refine wp_region_head (S := fun W => Hid ((fun W => Keeps W0 W ∧ W.cell? ⟨p, 0, none⟩ = some (.int .i32 d.ver) ∧ W.cell? ⟨p, 1, none⟩ = some (.slice ia d.ins.length ic) ∧ W.cell? ⟨p, 2, none⟩ = some (.slice oa d.outs.length oc) ∧ W.cell? ⟨p, 3, none⟩ = some (.int .u32 d.lock)) W)) 6 (by kernel_rfl) (by kernel_rfl) ?_ (fun hHeld => ?_)
  focus exact Lib.hid ⟨keeps_drew HOWN.out.keeps, HCE.out _ (keeps_drew HOWN.out.keeps)⟩
  refine wpAnyHL_take (i := 0) (oi := ?_) (v := ?_) ?_ ?_ ?_ ?_ ?_ ?_ ?_ ?_ ?_ (Or.inl ⟨?_, ?_⟩) ?_ ?_
  rotate_left 2
  focus (simp only [List.getElem?_toArray, List.getElem?_cons_succ, List.getElem?_cons_zero]; exact rfl)
  iterate 7 focus kernel_rfl
  focus (exact fun _ _ _ h => h)
  focus rfl
  focus ((intro wSw hSw; (have hSw := hSw.out); (try dsimp only at hSw); go_simp) <;> with_reducible rfl)
  focus assumption
  try simp only [Act.put, List.setIfInBounds_toArray, List.set_cons_zero, List.set_cons_succ]
  refine wpAnyHL_take (i := 1) (oi := ?_) (v := ?_) ?_ ?_ ?_ ?_ ?_ ?_ ?_ ?_ ?_ (Or.inl ⟨?_, ?_⟩) ?_ ?_
  rotate_left 2
  focus (simp only [List.getElem?_toArray, List.getElem?_cons_succ, List.getElem?_cons_zero]; exact rfl)
  iterate 7 focus kernel_rfl
  focus (exact fun _ _ _ h => h)
  focus rfl
  focus ((intro wSw hSw; (have hSw := hSw.out); (try dsimp only at hSw); go_simp) <;> with_reducible rfl)
  focus assumption
  try simp only [Act.put, List.setIfInBounds_toArray, List.set_cons_zero, List.set_cons_succ]
  refine wpAnyHL_take (i := 4) (oi := ?_) (v := ?_) ?_ ?_ ?_ ?_ ?_ ?_ ?_ ?_ ?_ (Or.inl ⟨?_, ?_⟩) ?_ ?_
  rotate_left 2
  focus (simp only [List.getElem?_toArray, List.getElem?_cons_succ, List.getElem?_cons_zero]; exact rfl)
  iterate 7 focus kernel_rfl
  focus (exact fun _ _ _ h => h)
  focus rfl
  focus ((intro wSw hSw; (have hSw := hSw.out); (try dsimp only at hSw); go_simp) <;> with_reducible rfl)
  focus assumption
  try simp only [Act.put, List.setIfInBounds_toArray, List.set_cons_zero, List.set_cons_succ]
  refine wpAnyHL_one (i := 2) (o := ?_) (by kernel_rfl) (by kernel_rfl) ?_ ?_
  rotate_left 1
  focus (simp only [List.getElem?_toArray, List.getElem?_cons_succ, List.getElem?_cons_zero]; exact rfl)
  go_wp2_with (go_at_call 59; refine (HIN.out _ (HK.out.trans hHeld.out.1)).mono ?_; rintro e W6 ⟨v6, rfl, hO6⟩; obtain ⟨a6, c6, rfl⟩ := hO6.any; have HO6 := Lib.hid hO6; clear hO6)
  try dsimp only [StepQ]
  refine ⟨?_, fun hHeld => ?_⟩
  focus (exact Lib.hid (⟨hHeld.out.1.trans HO6.out.keeps, HCE.out _ (hHeld.out.1.trans HO6.out.keeps)⟩))
  try simp only [Act.put, List.setIfInBounds_toArray, List.set_cons_zero, List.set_cons_succ]
  refine wpAnyHL_one (i := 3) (o := ?_) (by kernel_rfl) (by kernel_rfl) ?_ ?_
  rotate_left 1
  focus (simp only [List.getElem?_toArray, List.getElem?_cons_succ, List.getElem?_cons_zero]; exact rfl)
  go_wp2_with (refine own_append rfl _ _ rfl (HOWN.out.step (keeps_drew (Keeps.refl _))) HO6.out.keeps rfl _ rfl IB.length IB (HO6.out.rd.src Tryz.underlying32 (int_oneCell _)) (by omega) ?_; intro v8 w8 hO8 hG8; obtain ⟨a8, c8, rfl⟩ := hO8.any; have HO8 := Lib.hid hO8; clear hO8 hG8)
  try dsimp only [StepQ]
  refine ⟨?_, fun hHeld => ?_⟩
  focus (exact Lib.hid (⟨HO8.out.keeps, HCE.out _ HO8.out.keeps⟩))
  try simp only [Act.put, List.setIfInBounds_toArray, List.set_cons_zero, List.set_cons_succ]
  refine wpAnyHL_one (i := 5) (o := ?_) (by kernel_rfl) (by kernel_rfl) ?_ ?_
  rotate_left 1
  focus (simp only [List.getElem?_toArray, List.getElem?_cons_succ, List.getElem?_cons_zero]; exact rfl)
  go_wp2_with (go_at_call 60; refine (HOU.out _ (HK.out.trans hHeld.out.1)).mono ?_; rintro e W9 ⟨v9, rfl, hO9⟩; obtain ⟨a9, c9, rfl⟩ := hO9.any; have HO9 := Lib.hid hO9; clear hO9)
  try dsimp only [StepQ]
  refine ⟨?_, fun hHeld => ?_⟩
  focus (exact Lib.hid (⟨hHeld.out.1.trans HO9.out.keeps, HCE.out _ (hHeld.out.1.trans HO9.out.keeps)⟩))
  try simp only [Act.put, List.setIfInBounds_toArray, List.set_cons_zero, List.set_cons_succ]
  refine wpAnyHL_done (by kernel_rfl) ?_
  try simp only [List.drop_succ_cons, List.drop_zero]
  go_wp2_with (refine own_append rfl _ _ rfl HO8.out HO9.out.keeps rfl _ rfl OB.length OB (HO9.out.rd.src Tryz.underlying32 (int_oneCell _)) (by omega) ?_; intro v10 w10 hO10 hG10; obtain ⟨a10, c10, rfl⟩ := hO10.any; have HO10 := Lib.hid hO10; clear hO10 hG10)
  clear hHeld
  have hpp : (LV ++ [0, 1] ++ IB ++ OB).length = 4 + 2 + IB.length + OB.length := HO10.out.len
  generalize hPP : LV ++ [0, 1] ++ IB ++ OB = PP at *
  have ho10 := HO10.out
  rw [← hpp] at ho10
  have HO := Lib.hid ho10
  clear ho10
  go_loopw [5, 6] (fun vv c wr => ∃ i : Nat, i ≤ d.ins.length ∧ c = .int .i64 i ∧ Own W0 wr vv (PP ++ (d.ins.take i).flatMap witB).length (PP ++ (d.ins.take i).flatMap witB)) (fun _ c _ => (d.ins.length - intOf c).toNat)
  case atStart => exact ⟨0, by omega, rfl, by have := HO.out; rw [hpp] at this; exact this.cast (by simp) (by simp [hpp])⟩
  case round =>
    obtain ⟨i, hi, rfl, hown⟩ := hrel
    have hpl := HPRE.out i
    obtain ⟨d0, d1, d2, d3⟩ := HCE.out _ hown.keeps
    by_cases hlt : i < d.ins.length
    · obtain ⟨g, off, sv, wv, di, rfl, hg, hdi, hrow, hrin⟩ := (HI.out.keeps HK.out).at i hlt
      have hstep := take_flat witB d.ins i di hdi
      have hbnd := HPRE.out (i + 1)
      rw [hstep] at hbnd
      have HSTEP := Lib.hid hstep
      generalize (d.ins.take i).flatMap witB = PL at *
      obtain ⟨_, _, _, c35⟩ := at_index (hrow.keeps hown.keeps) hrin.ok.hashLen
      obtain ⟨wa, wc, rfl, hwc, hwcm, hwan⟩ := hrin.wit.any
      have hwsm : di.wit.length * 24 ≤ 140737488355328 := by obtain ⟨_, h⟩ := hrin.wit; exact h.small
      have hib : witB di = sizeB (di.wit.length : Int) ++ di.wit.flatMap textB := rfl
      rw [hib, List.length_append, List.length_append] at hbnd
      have HSZ := Lib.hid (size_any (di.wit.length : Int) (by omega) (by omega))
      have HWT := Lib.hid hrin.wit; have HOWN2 := Lib.hid hown; have HIB := Lib.hid hib
      have hpl2 : (PP ++ PL).length = PP.length + PL.length := by simp
      have HPL2 := Lib.hid hpl2
      clear hrow hrin hib hown hstep hdi hpl2
      generalize hPQ : PP ++ PL = PQ at *
      generalize sizeB (di.wit.length : Int) = SB at *
      obtain ⟨va, vc, hve⟩ := HOWN2.out.any
      subst hve
      go_upto_region 11 with (first | (go_at_call 30; refine (HSZ.out _).mono ?_; rintro e W1 ⟨v1, rfl, hO1⟩; obtain ⟨a1', c1', rfl⟩ := hO1.any; have HOS := Lib.hid hO1; clear hO1) | (refine own_append rfl _ _ rfl HOWN2.out HOS.out.keeps rfl _ rfl SB.length SB (HOS.out.rd.src Tryz.underlying32 (int_oneCell _)) (by have := HPL2.out; omega) ?_; intro v12 w12 hO12 hG12; obtain ⟨a12, c12, rfl⟩ := hO12.any; have HO12 := Lib.hid hO12; clear hO12 hG12))
      have hpre2 : ∀ k, PQ.length + SB.length + ((di.wit.take k).flatMap textB).length ≤ 1000000000006 := fun k => by
        have h1 := flat_take_le textB di.wit k
        have h2 := HPL2.out
        omega
      have HPRE2 := Lib.hid hpre2
      clear hpre2 d0 d1 d2 d3 c35
      have hbl : (PQ ++ SB).length = PQ.length + SB.length := by simp
      have ho12 := HO12.out
      rw [← hbl] at ho12
      generalize hPS : PQ ++ SB = PS at *
      have HO2 := Lib.hid ho12; have HBL := Lib.hid hbl
      clear ho12 hbl
      generalize wr = wA at *
      go_wp2
      go_loopw [5, 8] (fun vv c wr => ∃ k : Nat, k ≤ di.wit.length ∧ c = .int .i64 k ∧ Own W0 wr vv (PS ++ (di.wit.take k).flatMap textB).length (PS ++ (di.wit.take k).flatMap textB)) (fun _ c _ => (di.wit.length - intOf c).toNat)
      case atStart => exact ⟨0, by omega, rfl, by have := HO2.out; rw [HBL.out] at this; exact this.cast (by simp) (by simp [HBL.out])⟩
      case round =>
        obtain ⟨k, hk, rfl, hown⟩ := hrel
        by_cases hlt2 : k < di.wit.length
        · obtain ⟨gw, ow, u, rfl, hgw, hcu, hru⟩ := HWT.out.at k hlt2
          obtain ⟨lk, hlk⟩ : ∃ lk, di.wit[k]? = some lk := ⟨di.wit[k], List.getElem?_eq_getElem hlt2⟩
          have hgd : di.wit.getD k [] = lk := by simp only [List.getD, hlk, Option.getD_some]
          rw [hgd] at hru
          have hstep := take_flat textB di.wit k lk hlk
          have hb2 := HPRE2.out (k + 1)
          rw [hstep, List.length_append] at hb2
          have HSTEP2 := Lib.hid hstep
          have hcu2 := (hown.keeps.cell (p := ⟨gw, ow + k, none⟩) hgw).trans hcu
          generalize (di.wit.take k).flatMap textB = QL at *
          have hts : lk.length ≤ (textB lk).length := by unfold textB; simp
          have HTX := Lib.hid (text_any u lk (by omega))
          obtain ⟨ua, uc, rfl, -⟩ := hru.any
          have HRU := Lib.hid hru; have HOWN3 := Lib.hid hown
          have hqq : (PS ++ QL).length = PS.length + QL.length := by simp
          have HQQ := Lib.hid hqq
          clear hru hown hstep hcu hlk hgd hqq
          generalize hPX : PS ++ QL = PX at *
          generalize textB lk = TB at *
          obtain ⟨va, vc, hve⟩ := HOWN3.out.any
          subst hve
          go_wp2_with (first | (go_at_call 31; refine (HTX.out _ (HRU.out.keeps HOWN3.out.keeps).rd).mono ?_; rintro e W9 ⟨v9, rfl, hO9⟩; obtain ⟨a9, c9, rfl⟩ := hO9.any; have HO9 := Lib.hid hO9; clear hO9) | (refine own_append rfl _ _ rfl HOWN3.out HO9.out.keeps rfl _ rfl TB.length TB (HO9.out.rd.src Tryz.underlying32 (int_oneCell _)) (by have h1 := HQQ.out; have h2 := HBL.out; omega) ?_; intro v14 w14 hO14 hG14; obtain ⟨a14, c14, rfl⟩ := hO14.any; have HO14 := Lib.hid hO14; clear hO14 hG14))
          go_roundw
          case rel =>
            have e14 : PX ++ TB = PS ++ (di.wit.take (k + 1)).flatMap textB := by rw [HSTEP2.out, ← hPX]; simp only [List.append_assoc]
            exact ⟨k + 1, by omega, by go_num, HO14.out.cast e14 (by rw [← e14]; have := HO14.out.len; rw [← this])⟩
          case measure => simp [intOf]; omega
        · obtain rfl : k = di.wit.length := by omega
          rw [List.take_length] at hown
          have HOWN3 := Lib.hid hown
          clear hown
          go_wp2
          go_roundw
          case rel =>
            have e15 : PS ++ di.wit.flatMap textB = PP ++ (d.ins.take (i + 1)).flatMap witB := by rw [HSTEP.out, HIB.out, ← hPS, ← hPQ]; simp only [List.append_assoc]
            exact ⟨i + 1, by omega, by go_num, HOWN3.out.cast e15 (by rw [e15])⟩
          case measure => simp [intOf]; omega
    · obtain rfl : i = d.ins.length := by omega
      rw [List.take_length] at hown hpl
      have HOWN3 := Lib.hid hown
      obtain ⟨va, vc, hve⟩ := hown.any
      subst hve
      clear hown
      have hqq : (PP ++ d.ins.flatMap witB).length = PP.length + (d.ins.flatMap witB).length := by simp
      have HQQ := Lib.hid hqq
      clear hqq
      generalize hPX : PP ++ d.ins.flatMap witB = PX at *
      go_wp2_with (first | (go_at_call 33; refine (HL2.out _).mono ?_; rintro e W7 ⟨v7, rfl, hO7⟩; obtain ⟨a7, c7, rfl⟩ := hO7.any; have HO7 := Lib.hid hO7; clear hO7) | (refine own_append rfl _ _ rfl HOWN3.out HO7.out.keeps rfl _ rfl 4 LK (HO7.out.rd.src Tryz.underlying32 (int_oneCell _)) (by have := HQQ.out; omega) ?_; intro v12 w12 hO12 hG12; obtain ⟨a12, c12, rfl⟩ := hO12.any; have HO12 := Lib.hid hO12; clear hO12 hG12))
      go_ret
      exact ⟨_, _, rfl, (Own.keepsW HK.out HO12.out).cast (by rw [← hPX, ← hPP]) rfl⟩
theorem renc_any (S T R : Nat → Prop) (d : TxD) (iv ov : Value) (wit : Bool) (hf : Fits d) (w : World) (h : RTx S T R w iv ov d) :
    Calls Tryz.prog 32 #[.agg #[.int .i32 d.ver, iv, ov, .int .u32 d.lock], .bool wit] w fun e w' => ∃ v, e = .returned v ∧ Own w w' v (encB d wit).length (encB d wit) := by
  by_cases hc : wit = true ∧ witnessedD d = true
  · obtain ⟨rfl, hw⟩ := hc
    refine (renc_wit S T R d iv ov hw hf w h).mono ?_
    rintro e w' ⟨v, n, rfl, hO⟩
    have e1 : encB d true = leB (d.ver % 4294967296) 4 ++ [0, 1] ++ insB d.ins ++ outsB d.outs ++ d.ins.flatMap witB ++ leB d.lock 4 := by unfold encB; rw [hw]; rfl
    exact ⟨v, rfl, hO.cast e1.symm (by rw [e1]; exact hO.len.symm)⟩
  · have hc2 : wit = false ∨ (wit = true ∧ witnessedD d = false) := by
      cases wit
      · exact .inl rfl
      · refine .inr ⟨rfl, ?_⟩
        cases hw : witnessedD d
        · rfl
        · exact absurd ⟨rfl, hw⟩ hc
    refine (renc_plain S T R d iv ov wit hc2 hf w h).mono ?_
    rintro e w' ⟨v, n, rfl, hO⟩
    have hcc : (wit && witnessedD d) = false := by
      rcases hc2 with rfl | ⟨rfl, h2⟩
      · rfl
      · rw [h2]; rfl
    have e1 : encB d wit = leB (d.ver % 4294967296) 4 ++ insB d.ins ++ outsB d.outs ++ leB d.lock 4 := by unfold encB; rw [hcc]; simp
    exact ⟨v, rfl, hO.cast e1.symm (by rw [e1]; exact hO.len.symm)⟩
end Go.Proofs.YtcodpdpeklammaaGreatDoor
