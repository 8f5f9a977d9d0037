/- The reference's DecodeHeader. -/
import Derived.Test.YtcodpdpeklammaaGreatDoorGC9
namespace Go.Proofs.YtcodpdpeklammaaGreatDoor
set_option linter.unusedVariables false
set_option linter.unusedSimpArgs false
open Go Go.RowKit
theorem rd_sub {W : World} {g off n cap i j : Nat} {xs : List Value} (h : Rd W 1 (.slice (some ⟨g, off, none⟩) n cap) n xs) (hi : i ≤ j) (hj : j ≤ n) : Rd W 1 (.slice (some ⟨g, off + i, none⟩) (j - i) (cap - i)) (j - i) ((xs.drop i).take (j - i)) := by
  obtain ⟨h0, a', cap', e, h2, h3, _, h5⟩ := h
  cases e
  refine ⟨by simp; omega, _, _, rfl, by omega, by omega, fun e => (by cases e), fun ad e hn => ?_⟩
  obtain ⟨g', off', e2, hg, hr⟩ := h5 _ rfl (by omega)
  cases e2; cases e
  exact ⟨g, off + i, rfl, hg, (hr.drop i).take _⟩
theorem built_hd4 (a b c d : Int) : Tryz.prog.built 26 [(0, .int .i32 a), (3, .int .u32 b), (4, .int .u32 c), (5, .int .u32 d)] = some (hdCells ⟨a, Z32, Z32, b, c, d⟩).toArray := by kernel_rfl
theorem run_build_at {P : Program} {o : Oper} {a : Act} {w : World} (t : TypeId) (parts : List (Nat × Operand)) (ho : o.op = .build t parts.toArray) (vs : List (Nat × Value)) (hv : (parts.map fun (i, x) => (i, a.eval x)) = vs) (out : Array Value)
    (hb : P.built t vs = some out) : (execOp a.eval o).run P w = .ok (.value (.agg out)) w := by
  subst hv
  have h2 : P.built t (parts.toArray.map fun (i, x) => (i, a.eval x)).toList = some out := by rw [List.map_toArray]; exact hb
  unfold execOp
  simp only [ho, Sem.run_bind, run_build w t _ _ h2, Result.andThen_ok, Sem.run_pure]
theorem leV_four {l : List Int} (hb : Bytes l) {i : Nat} : 0 ≤ leV ((l.drop i).take 4) ∧ leV ((l.drop i).take 4) < 4294967296 := by
  have h := leV_rng ((l.drop i).take 4) (bytes_take (bytes_drop hb _) _)
  have h2 : (256 : Int) ^ ((l.drop i).take 4).length ≤ 4294967296 := by
    have h3 : ((l.drop i).take 4).length ≤ 4 := by simp; omega
    have h4 : ((l.drop i).take 4).length = 0 ∨ ((l.drop i).take 4).length = 1 ∨ ((l.drop i).take 4).length = 2 ∨ ((l.drop i).take 4).length = 3 ∨ ((l.drop i).take 4).length = 4 := by omega
    rcases h4 with h | h | h | h | h <;> rw [h] <;> decide
  exact ⟨h.1, Int.lt_of_lt_of_le h.2 h2⟩
theorem u32_wrap {x : Int} (h0 : 0 ≤ x) (h1 : x < 4294967296) : IntKind.u32.wrap x = x := by rw [IntKind.wrap_u32]; omega
theorem i32_wrap {x : Int} (h0 : 0 ≤ x) (h1 : x < 4294967296) : IntKind.i32.wrap x = toI32 x := by rw [IntKind.wrap_i32]; unfold toI32; split <;> omega
/-- the value of four bytes of a slice -/
theorem value_four (g off cap i : Nat) (l : List Int) (w : World) (hr : Rd w 1 (.slice (some ⟨g, off, none⟩) l.length cap) l.length (l.map (Value.int .u8))) (hb : Bytes l) (hn : i + 4 ≤ l.length) :
    Calls Tryz.prog 71 #[.slice (some ⟨g, off + i, none⟩) 4 (cap - i)] w fun r w' => r = .returned (.int .u64 (leV ((l.drop i).take 4))) ∧ w' = w := by
  have h := rd_sub hr (Nat.le_add_right i 4) hn
  rw [Nat.add_sub_cancel_left, ← List.map_drop, ← List.map_take] at h
  have hl : ((l.drop i).take 4).length = 4 := by simp; omega
  have h2 := value_any _ ((l.drop i).take 4) w (by rw [hl]; exact h) (bytes_take (bytes_drop hb _) _) (by omega)
  exact h2
/-- what was copied so far, and the rest -/
def padN (i : Nat) (xs : List Int) : List Int := xs.take i ++ Z32.drop i
theorem padN_len {i : Nat} {xs : List Int} (hi : i ≤ 32) (hx : i ≤ xs.length) : (padN i xs).length = 32 := by simp [padN, Z32]; omega
theorem hd_cellA {w : World} {q : Nat} {h : HdD} (hr : Row w q 0 (hdCells h)) (h1 : h.prev.length = 32) (i : Nat) (hi : i < 32) : w.cell? ⟨q, 1 + i, none⟩ = some (.int .u8 (h.prev.getD i 0)) ∧ w.frozen? ⟨q, 1 + i, none⟩ = false := by
  have := hr (1 + i) (.int .u8 (h.prev.getD i 0)) (by
    unfold hdCells headCells
    rw [Nat.add_comm 1 i, List.getElem?_cons_succ, List.getElem?_append_left (by simp [h1]; omega), List.getElem?_map, List.getD, List.getElem?_eq_getElem (by omega : i < h.prev.length)]; rfl)
  simpa using this
theorem hd_cellB {w : World} {q : Nat} {h : HdD} (hr : Row w q 0 (hdCells h)) (h1 : h.prev.length = 32) (h2 : h.merkle.length = 32) (i : Nat) (hi : i < 32) : w.cell? ⟨q, 33 + i, none⟩ = some (.int .u8 (h.merkle.getD i 0)) ∧ w.frozen? ⟨q, 33 + i, none⟩ = false := by
  have := hr (33 + i) (.int .u8 (h.merkle.getD i 0)) (by
    unfold hdCells headCells
    rw [show 33 + i = (32 + i) + 1 by omega, List.getElem?_cons_succ, List.getElem?_append_right (by simp [h1]), List.length_map, h1, Nat.add_sub_cancel_left, List.getElem?_append_left (by simp [h2]; omega), List.getElem?_map, List.getD, List.getElem?_eq_getElem (by omega : i < h.merkle.length)]; rfl)
  simpa using this
theorem hd_setA {h : HdD} (x : Int) (h1 : h.prev.length = 32) {i : Nat} (hi : i < 32) : (hdCells h).set (1 + i) (.int .u8 x) = hdCells { h with prev := h.prev.set i x } := by
  unfold hdCells headCells
  rw [Nat.add_comm 1 i, List.set_cons_succ, List.set_append_left _ _ (by simp [h1]; omega), List.map_set]
theorem hd_setB {h : HdD} (x : Int) (h1 : h.prev.length = 32) (h2 : h.merkle.length = 32) {i : Nat} (hi : i < 32) : (hdCells h).set (33 + i) (.int .u8 x) = hdCells { h with merkle := h.merkle.set i x } := by
  unfold hdCells headCells
  rw [show 33 + i = (32 + i) + 1 by omega, List.set_cons_succ, List.set_append_right _ _ (by simp [h1]), List.length_map, h1, Nat.add_sub_cancel_left, List.set_append_left _ _ (by simp [h2]; omega), List.map_set]
theorem padN_set {i : Nat} {xs : List Int} (hi : i < 32) (hx : i < xs.length) : (padN i xs).set i (xs.getD i 0) = padN (i + 1) xs := by
  unfold padN
  have hl : (xs.take i).length = i := by simp; omega
  rw [List.set_append_right _ _ (by omega), hl, Nat.sub_self, List.drop_eq_getElem_cons (show i < Z32.length from hi), List.set_cons_zero, List.getD, List.getElem?_eq_getElem hx, (List.take_append_getElem hx).symm, List.append_assoc]
  rfl
set_option maxRecDepth 100000 in
set_option maxHeartbeats 4000000 in
theorem rhead_any (v : Value) (l : List Int) (w : World) (hr : Rd w 1 v l.length (l.map (Value.int .u8))) (hb : Bytes l) (h80 : 80 ≤ l.length) :
    Calls Tryz.prog 40 #[v] w fun r W => Keeps w W ∧ r = .returned (.agg (hdCells (headOf l)).toArray) := by
  obtain ⟨g, off, cap, rfl, hcap, hcm⟩ : ∃ g off cap, v = .slice (some ⟨g, off, none⟩) l.length cap ∧ l.length ≤ cap ∧ cap ≤ maxLen := by
    obtain ⟨_, a, cap, e, h2, h3, h4, h5⟩ := hr
    cases a with
    | none => have := (h4 rfl).1; omega
    | some ad => obtain ⟨g, off, rfl, _, _⟩ := h5 ad rfl (by omega); exact ⟨g, off, cap, e, h2, h3⟩
  have hcm2 : cap ≤ 9223372036854775807 := by unfold maxLen at hcm; omega
  have HR := Lib.hid hr; have HBY := Lib.hid hb
  clear hr hb hcm
  go_enter Tryz.func40, Tryz.ntmps40
  go_upto_region 1 with (fail)
  refine wp_rows1r (fun W0 hk hr1 hsz => ?_)
  obtain ⟨p, hp⟩ : ∃ p, p = w.heap.size := ⟨_, rfl⟩
  rw [← hp] at hr1 hsz ⊢
  have HP := Lib.hid hp; have HSZ := Lib.hid hsz; have HK := Lib.hid hk
  have HR1 := Lib.hid (show Row W0 p 0 (hdCells (hd0 0)) from hr1)
  have HR0 := Lib.hid (HR.out.keeps hk)
  clear hp hsz hk hr1 HR
  go_upto_region 1 with (fail)
  rename_i K1 hK1
  refine wp_join2 [3, 4, 5, 6, 7, 8, 9, 10, 11, 12, 13, 14, 15, 16, 17, 18, 19, 20, 21, 22] (fun us W => us.getD 0 undef = .pointer (some ⟨W0.heap.size, 0, none⟩) ∧ Keeps W0 W ∧ Row W W0.heap.size 0 (hdCells ⟨toI32 (leV (l.take 4)), Z32, Z32, leV ((l.drop 68).take 4), leV ((l.drop 72).take 4), leV ((l.drop 76).take 4)⟩)) hK1 (fun key0 => ?_) ?_
  focus
    have key := fun u1 u2 u3 u4 u5 u6 u7 u8 u9 u10 u11 u12 u13 u14 u15 u16 u17 u18 u19 u20 w' => key0 [u1, u2, u3, u4, u5, u6, u7, u8, u9, u10, u11, u12, u13, u14, u15, u16, u17, u18, u19, u20] w' rfl
    clear key0 hK1
    simp only [putAll, Act.put, List.setIfInBounds_toArray, List.set_cons_zero, List.set_cons_succ] at key
    have KEY := Lib.hid key
    clear key
    have E0 := Lib.hid (show IntKind.i32.wrap (IntKind.u32.wrap (leV (l.take 4))) = toI32 (leV (l.take 4)) by
      have h := leV_four HBY.out (i := 0)
      rw [List.drop_zero] at h
      rw [u32_wrap h.1 h.2]
      exact i32_wrap h.1 h.2)
    have E1 := Lib.hid (show IntKind.u32.wrap (leV ((l.drop 68).take 4)) = leV ((l.drop 68).take 4) from u32_wrap (leV_four HBY.out).1 (leV_four HBY.out).2)
    have E2 := Lib.hid (show IntKind.u32.wrap (leV ((l.drop 72).take 4)) = leV ((l.drop 72).take 4) from u32_wrap (leV_four HBY.out).1 (leV_four HBY.out).2)
    have E3 := Lib.hid (show IntKind.u32.wrap (leV ((l.drop 76).take 4)) = leV ((l.drop 76).take 4) from u32_wrap (leV_four HBY.out).1 (leV_four HBY.out).2)
    have RN := Lib.hid (show Row (W0.drew.alloc (.cells (hdCells (hd0 0)).toArray 26)) W0.heap.size 0 (hdCells (hd0 0)) from Row.new _ _ _ rfl)
    have RD := Lib.hid (HR0.out.keeps (keeps_drew (Keeps.refl _)))
    have KD := Lib.hid (keeps_drew (Keeps.refl W0))
    have KA := Lib.hid (keeps_alloc (keeps_drew (Keeps.refl W0)) (.cells (hdCells (hd0 0)).toArray 26))
    have RA := Lib.hid (HR0.out.keeps KA.out)
    have V0 := Lib.hid (fun W h => value_four g off cap 0 l W h HBY.out (by omega))
    have V1 := Lib.hid (fun W h => value_four g off cap 68 l W h HBY.out (by omega))
    have V2 := Lib.hid (fun W h => value_four g off cap 72 l W h HBY.out (by omega))
    have V3 := Lib.hid (fun W h => value_four g off cap 76 l W h HBY.out (by omega))
    have hn1 : ¬ cap = 68 := by omega
    have hn2 : ¬ cap = 72 := by omega
    have hn3 : ¬ cap = 76 := by omega
    have hb1 : (4 : Int) ≤ (cap : Int) := by omega
    have hb2 : (72 : Int) ≤ (cap : Int) := by omega
    have hb3 : (76 : Int) ≤ (cap : Int) := by omega
    have hb4 : (80 : Int) ≤ (cap : Int) := by omega
    refine wp_region_head (S := fun W => Hid ((fun W => Keeps W0 W) W)) 19 (by kernel_rfl) (by kernel_rfl) ?_ (fun hHeld => ?_)
    focus exact Lib.hid (keeps_drew (Keeps.refl _))
    refine wpAnyHL_take (i := 0) (oi := ?_) (v := ?_) ?_ ?_ ?_ ?_ ?_ ?_ ?_ ?_ ?_ (Or.inl ⟨?_, ?_⟩) ?_ ?_
    rotate_left 2
    focus (simp only [List.getElem?_toArray, List.getElem?_cons_succ, List.getElem?_cons_zero]; exact rfl)
    iterate 7 focus kernel_rfl
    focus (exact fun _ _ _ h => h)
    focus rfl
    focus ((intro wSw hSw; (have hSw := hSw.out); (try dsimp only at hSw); go_simp) <;> with_reducible rfl)
    focus assumption
    try simp only [Act.put, List.setIfInBounds_toArray, List.set_cons_zero, List.set_cons_succ]
    refine wpAnyHL_take (i := 1) (oi := ?_) (v := ?_) ?_ ?_ ?_ ?_ ?_ ?_ ?_ ?_ ?_ (Or.inl ⟨?_, ?_⟩) ?_ ?_
    rotate_left 2
    focus (simp only [List.getElem?_toArray, List.getElem?_cons_succ, List.getElem?_cons_zero]; exact rfl)
    iterate 7 focus kernel_rfl
    focus (exact fun _ _ _ h => h)
    focus rfl
    focus ((intro wSw hSw; (have hSw := hSw.out); (try dsimp only at hSw); go_simp) <;> with_reducible rfl)
    focus assumption
    try simp only [Act.put, List.setIfInBounds_toArray, List.set_cons_zero, List.set_cons_succ]
    refine wpAnyHL_take (i := 5) (oi := ?_) (v := ?_) ?_ ?_ ?_ ?_ ?_ ?_ ?_ ?_ ?_ (Or.inl ⟨?_, ?_⟩) ?_ ?_
    rotate_left 2
    focus (simp only [List.getElem?_toArray, List.getElem?_cons_succ, List.getElem?_cons_zero]; exact rfl)
    iterate 7 focus kernel_rfl
    focus (exact fun _ _ _ h => h)
    focus rfl
    focus ((intro wSw hSw; (have hSw := hSw.out); (try dsimp only at hSw); go_simp) <;> with_reducible rfl)
    focus assumption
    try simp only [Act.put, List.setIfInBounds_toArray, List.set_cons_zero, List.set_cons_succ]
    refine wpAnyHL_take (i := 6) (oi := ?_) (v := ?_) ?_ ?_ ?_ ?_ ?_ ?_ ?_ ?_ ?_ (Or.inl ⟨?_, ?_⟩) ?_ ?_
    rotate_left 2
    focus (simp only [List.getElem?_toArray, List.getElem?_cons_succ, List.getElem?_cons_zero]; exact rfl)
    iterate 7 focus kernel_rfl
    focus (exact fun _ _ _ h => h)
    focus rfl
    focus ((intro wSw hSw; (have hSw := hSw.out); (try dsimp only at hSw); go_simp) <;> with_reducible rfl)
    focus assumption
    try simp only [Act.put, List.setIfInBounds_toArray, List.set_cons_zero, List.set_cons_succ]
    refine wpAnyHL_take (i := 9) (oi := ?_) (v := ?_) ?_ ?_ ?_ ?_ ?_ ?_ ?_ ?_ ?_ (Or.inl ⟨?_, ?_⟩) ?_ ?_
    rotate_left 2
    focus (simp only [List.getElem?_toArray, List.getElem?_cons_succ, List.getElem?_cons_zero]; exact rfl)
    iterate 7 focus kernel_rfl
    focus (exact fun _ _ _ h => h)
    focus rfl
    focus ((intro wSw hSw; (have hSw := hSw.out); (try dsimp only at hSw); go_simp) <;> with_reducible rfl)
    focus assumption
    try simp only [Act.put, List.setIfInBounds_toArray, List.set_cons_zero, List.set_cons_succ]
    refine wpAnyHL_take (i := 10) (oi := ?_) (v := ?_) ?_ ?_ ?_ ?_ ?_ ?_ ?_ ?_ ?_ (Or.inl ⟨?_, ?_⟩) ?_ ?_
    rotate_left 2
    focus (simp only [List.getElem?_toArray, List.getElem?_cons_succ, List.getElem?_cons_zero]; exact rfl)
    iterate 7 focus kernel_rfl
    focus (exact fun _ _ _ h => h)
    focus rfl
    focus ((intro wSw hSw; (have hSw := hSw.out); (try dsimp only at hSw); go_simp) <;> with_reducible rfl)
    focus assumption
    try simp only [Act.put, List.setIfInBounds_toArray, List.set_cons_zero, List.set_cons_succ]
    refine wpAnyHL_take (i := 13) (oi := ?_) (v := ?_) ?_ ?_ ?_ ?_ ?_ ?_ ?_ ?_ ?_ (Or.inl ⟨?_, ?_⟩) ?_ ?_
    rotate_left 2
    focus (simp only [List.getElem?_toArray, List.getElem?_cons_succ, List.getElem?_cons_zero]; exact rfl)
    iterate 7 focus kernel_rfl
    focus (exact fun _ _ _ h => h)
    focus rfl
    focus ((intro wSw hSw; (have hSw := hSw.out); (try dsimp only at hSw); go_simp) <;> with_reducible rfl)
    focus assumption
    try simp only [Act.put, List.setIfInBounds_toArray, List.set_cons_zero, List.set_cons_succ]
    refine wpAnyHL_take (i := 14) (oi := ?_) (v := ?_) ?_ ?_ ?_ ?_ ?_ ?_ ?_ ?_ ?_ (Or.inl ⟨?_, ?_⟩) ?_ ?_
    rotate_left 2
    focus (simp only [List.getElem?_toArray, List.getElem?_cons_succ, List.getElem?_cons_zero]; exact rfl)
    iterate 7 focus kernel_rfl
    focus (exact fun _ _ _ h => h)
    focus rfl
    focus ((intro wSw hSw; (have hSw := hSw.out); (try dsimp only at hSw); go_simp) <;> with_reducible rfl)
    focus assumption
    try simp only [Act.put, List.setIfInBounds_toArray, List.set_cons_zero, List.set_cons_succ]
    refine wpAnyHL_ready (rs := [2, 18]) (by kernel_rfl) (by simp) ?_
    refine AllReadyL.cons (o := ?_) (by kernel_rfl) ?_ (fun K hK => ?_) ?_
    rotate_left 1
    focus (simp only [List.getElem?_toArray, List.getElem?_cons_succ, List.getElem?_cons_zero]; exact rfl)
    focus
      rw [if_pos (by rfl)]
      go_simp
      go_at_call 71; refine (V0.out _ RD.out).mono ?_; rintro r W ⟨rfl, rfl⟩
      refine hK.out _ _ ?_ ?_
      focus exact Lib.hid (KD.out)
      clear hK K hHeld
      intro hHeld
      try simp only [Act.put, List.setIfInBounds_toArray, List.set_cons_zero, List.set_cons_succ]
      refine wpAnyHL_take (i := 3) (oi := ?_) (v := ?_) ?_ ?_ ?_ ?_ ?_ ?_ ?_ ?_ ?_ (Or.inl ⟨?_, ?_⟩) ?_ ?_
      rotate_left 2
      focus (simp only [List.getElem?_toArray, List.getElem?_cons_succ, List.getElem?_cons_zero]; exact rfl)
      iterate 7 focus kernel_rfl
      focus (exact fun _ _ _ h => h)
      focus rfl
      focus ((intro wSw hSw; (have hSw := hSw.out); (try dsimp only at hSw); go_simp) <;> with_reducible rfl)
      focus assumption
      try simp only [Act.put, List.setIfInBounds_toArray, List.set_cons_zero, List.set_cons_succ]
      refine wpAnyHL_take (i := 4) (oi := ?_) (v := ?_) ?_ ?_ ?_ ?_ ?_ ?_ ?_ ?_ ?_ (Or.inl ⟨?_, ?_⟩) ?_ ?_
      rotate_left 2
      focus (simp only [List.getElem?_toArray, List.getElem?_cons_succ, List.getElem?_cons_zero]; exact rfl)
      iterate 7 focus kernel_rfl
      focus (exact fun _ _ _ h => h)
      focus rfl
      focus ((intro wSw hSw; (have hSw := hSw.out); (try dsimp only at hSw); go_simp) <;> with_reducible rfl)
      focus assumption
      try simp only [Act.put, List.setIfInBounds_toArray, List.set_cons_zero, List.set_cons_succ]
      refine wpAnyHL_ready (rs := [7, 18]) (by kernel_rfl) (by simp) ?_
      refine AllReadyL.cons (o := ?_) (by kernel_rfl) ?_ (fun K hK => ?_) ?_
      rotate_left 1
      focus (simp only [List.getElem?_toArray, List.getElem?_cons_succ, List.getElem?_cons_zero]; exact rfl)
      focus
        rw [if_pos (by rfl)]
        go_simp
        go_at_call 71; refine (V1.out _ RD.out).mono ?_; rintro r W ⟨rfl, rfl⟩
        refine hK.out _ _ ?_ ?_
        focus exact Lib.hid (KD.out)
        clear hK K hHeld
        intro hHeld
        try simp only [Act.put, List.setIfInBounds_toArray, List.set_cons_zero, List.set_cons_succ]
        refine wpAnyHL_take (i := 8) (oi := ?_) (v := ?_) ?_ ?_ ?_ ?_ ?_ ?_ ?_ ?_ ?_ (Or.inl ⟨?_, ?_⟩) ?_ ?_
        rotate_left 2
        focus (simp only [List.getElem?_toArray, List.getElem?_cons_succ, List.getElem?_cons_zero]; exact rfl)
        iterate 7 focus kernel_rfl
        focus (exact fun _ _ _ h => h)
        focus rfl
        focus ((intro wSw hSw; (have hSw := hSw.out); (try dsimp only at hSw); go_simp) <;> with_reducible rfl)
        focus assumption
        try simp only [Act.put, List.setIfInBounds_toArray, List.set_cons_zero, List.set_cons_succ]
        refine wpAnyHL_ready (rs := [11, 18]) (by kernel_rfl) (by simp) ?_
        refine AllReadyL.cons (o := ?_) (by kernel_rfl) ?_ (fun K hK => ?_) ?_
        rotate_left 1
        focus (simp only [List.getElem?_toArray, List.getElem?_cons_succ, List.getElem?_cons_zero]; exact rfl)
        focus
          rw [if_pos (by rfl)]
          go_simp
          go_at_call 71; refine (V2.out _ RD.out).mono ?_; rintro r W ⟨rfl, rfl⟩
          refine hK.out _ _ ?_ ?_
          focus exact Lib.hid (KD.out)
          clear hK K hHeld
          intro hHeld
          try simp only [Act.put, List.setIfInBounds_toArray, List.set_cons_zero, List.set_cons_succ]
          refine wpAnyHL_take (i := 12) (oi := ?_) (v := ?_) ?_ ?_ ?_ ?_ ?_ ?_ ?_ ?_ ?_ (Or.inl ⟨?_, ?_⟩) ?_ ?_
          rotate_left 2
          focus (simp only [List.getElem?_toArray, List.getElem?_cons_succ, List.getElem?_cons_zero]; exact rfl)
          iterate 7 focus kernel_rfl
          focus (exact fun _ _ _ h => h)
          focus rfl
          focus ((intro wSw hSw; (have hSw := hSw.out); (try dsimp only at hSw); go_simp) <;> with_reducible rfl)
          focus assumption
          try simp only [Act.put, List.setIfInBounds_toArray, List.set_cons_zero, List.set_cons_succ]
          refine wpAnyHL_ready (rs := [15, 18]) (by kernel_rfl) (by simp) ?_
          refine AllReadyL.cons (o := ?_) (by kernel_rfl) ?_ (fun K hK => ?_) ?_
          rotate_left 1
          focus (simp only [List.getElem?_toArray, List.getElem?_cons_succ, List.getElem?_cons_zero]; exact rfl)
          focus
            rw [if_pos (by rfl)]
            go_simp
            go_at_call 71; refine (V3.out _ RD.out).mono ?_; rintro r W ⟨rfl, rfl⟩
            refine hK.out _ _ ?_ ?_
            focus exact Lib.hid (KD.out)
            clear hK K hHeld
            intro hHeld
            try simp only [Act.put, List.setIfInBounds_toArray, List.set_cons_zero, List.set_cons_succ]
            refine wpAnyHL_take (i := 16) (oi := ?_) (v := ?_) ?_ ?_ ?_ ?_ ?_ ?_ ?_ ?_ ?_ (Or.inl ⟨?_, ?_⟩) ?_ ?_
            rotate_left 2
            focus (simp only [List.getElem?_toArray, List.getElem?_cons_succ, List.getElem?_cons_zero]; exact rfl)
            iterate 7 focus kernel_rfl
            focus (exact fun _ _ _ h => h)
            focus rfl
            focus ((intro wSw hSw; (have hSw := hSw.out); (try dsimp only at hSw); go_simp) <;> with_reducible rfl)
            focus assumption
            try simp only [Act.put, List.setIfInBounds_toArray, List.set_cons_zero, List.set_cons_succ]
            refine wpAnyHL_take (i := 17) (oi := ?_) (v := ?_) ?_ ?_ ?_ ?_ ?_ ?_ ?_ ?_ ?_ (Or.inl ⟨?_, ?_⟩) ?_ ?_
            rotate_left 2
            focus (simp only [List.getElem?_toArray, List.getElem?_cons_succ, List.getElem?_cons_zero]; exact rfl)
            iterate 7 focus kernel_rfl
            focus (exact fun _ _ _ h => h)
            focus rfl
            focus (intro wSw hSw; (have hSw := hSw.out); (refine run_build_at 26 [(0, .tmp 9), (3, .tmp 13), (4, .tmp 17), (5, .tmp 21)] ?_ _ ?_ _ (built_hd4 (IntKind.i32.wrap (IntKind.u32.wrap (leV (l.take 4)))) (IntKind.u32.wrap (leV ((l.drop 68).take 4))) (IntKind.u32.wrap (leV ((l.drop 72).take 4))) (IntKind.u32.wrap (leV ((l.drop 76).take 4))))) <;> rfl)
            focus assumption
            try simp only [Act.put, List.setIfInBounds_toArray, List.set_cons_zero, List.set_cons_succ]
            refine wpAnyHL_ready (rs := [18]) (by kernel_rfl) (by simp) ?_
            refine AllReadyL.cons (o := ?_) (by kernel_rfl) ?_ (fun K hK => ?_) ?_
            rotate_left 1
            focus (simp only [List.getElem?_toArray, List.getElem?_cons_succ, List.getElem?_cons_zero]; exact rfl)
            focus
              rw [if_pos (by rfl)]
              go_simp
              refine hK.out _ _ ?_ ?_
              focus exact Lib.hid (KA.out)
              clear hK K hHeld
              intro hHeld
              try simp only [Act.put, List.setIfInBounds_toArray, List.set_cons_zero, List.set_cons_succ]
              refine wpAnyHL_done (by kernel_rfl) ?_
              try simp only [List.drop_succ_cons, List.drop_zero]
              go_wp2_with ((with_reducible refine gate_store 26 (.tmp 3) (.tmp 22) ?_); refine wpList_store_row rfl 26 (.tmp 3) (.tmp 22) rfl W0.heap.size 0 rfl (hdCells (hd0 0)) (hdCells ⟨IntKind.i32.wrap (IntKind.u32.wrap (leV (l.take 4))), Z32, Z32, IntKind.u32.wrap (leV ((l.drop 68).take 4)), IntKind.u32.wrap (leV ((l.drop 72).take 4)), IntKind.u32.wrap (leV ((l.drop 76).take 4))⟩) rfl RN.out (by rw [hdCells_len rfl rfl, hdCells_len rfl rfl]) (sz_hd rfl rfl) (hdCells_one _) ?_; intro W2 hr2 hc2; have HR2 := Lib.hid hr2; have HC2 := Lib.hid hc2; clear hr2 hc2)
              refine KEY.out _ _ _ _ _ _ _ _ _ _ _ _ _ _ _ _ _ _ _ _ _ ?_
              exact ⟨rfl, keeps_chg KA.out HC2.out (Nat.le_refl _), by have h := HR2.out; rw [E0.out, E1.out, E2.out, E3.out] at h; exact h⟩
            exact AllReadyL.nil
          refine AllReadyL.cons (o := ?_) (by kernel_rfl) ?_ (fun K hK => ?_) ?_
          rotate_left 1
          focus (simp only [List.getElem?_toArray, List.getElem?_cons_succ, List.getElem?_cons_zero]; exact rfl)
          focus
            rw [if_pos (by rfl)]
            go_simp
            refine hK.out _ _ ?_ ?_
            focus exact Lib.hid (KA.out)
            clear hK K hHeld
            intro hHeld
            try simp only [Act.put, List.setIfInBounds_toArray, List.set_cons_zero, List.set_cons_succ]
            refine wpAnyHL_ready (rs := [15]) (by kernel_rfl) (by simp) ?_
            refine AllReadyL.cons (o := ?_) (by kernel_rfl) ?_ (fun K hK => ?_) ?_
            rotate_left 1
            focus (simp only [List.getElem?_toArray, List.getElem?_cons_succ, List.getElem?_cons_zero]; exact rfl)
            focus
              rw [if_pos (by rfl)]
              go_simp
              go_at_call 71; refine (V3.out _ RA.out).mono ?_; rintro r W ⟨rfl, rfl⟩
              refine hK.out _ _ ?_ ?_
              focus exact Lib.hid (KA.out)
              clear hK K hHeld
              intro hHeld
              try simp only [Act.put, List.setIfInBounds_toArray, List.set_cons_zero, List.set_cons_succ]
              refine wpAnyHL_take (i := 16) (oi := ?_) (v := ?_) ?_ ?_ ?_ ?_ ?_ ?_ ?_ ?_ ?_ (Or.inl ⟨?_, ?_⟩) ?_ ?_
              rotate_left 2
              focus (simp only [List.getElem?_toArray, List.getElem?_cons_succ, List.getElem?_cons_zero]; exact rfl)
              iterate 7 focus kernel_rfl
              focus (exact fun _ _ _ h => h)
              focus rfl
              focus ((intro wSw hSw; (have hSw := hSw.out); (try dsimp only at hSw); go_simp) <;> with_reducible rfl)
              focus assumption
              try simp only [Act.put, List.setIfInBounds_toArray, List.set_cons_zero, List.set_cons_succ]
              refine wpAnyHL_take (i := 17) (oi := ?_) (v := ?_) ?_ ?_ ?_ ?_ ?_ ?_ ?_ ?_ ?_ (Or.inl ⟨?_, ?_⟩) ?_ ?_
              rotate_left 2
              focus (simp only [List.getElem?_toArray, List.getElem?_cons_succ, List.getElem?_cons_zero]; exact rfl)
              iterate 7 focus kernel_rfl
              focus (exact fun _ _ _ h => h)
              focus rfl
              focus (intro wSw hSw; (have hSw := hSw.out); (refine run_build_at 26 [(0, .tmp 9), (3, .tmp 13), (4, .tmp 17), (5, .tmp 21)] ?_ _ ?_ _ (built_hd4 (IntKind.i32.wrap (IntKind.u32.wrap (leV (l.take 4)))) (IntKind.u32.wrap (leV ((l.drop 68).take 4))) (IntKind.u32.wrap (leV ((l.drop 72).take 4))) (IntKind.u32.wrap (leV ((l.drop 76).take 4))))) <;> rfl)
              focus assumption
              try simp only [Act.put, List.setIfInBounds_toArray, List.set_cons_zero, List.set_cons_succ]
              refine wpAnyHL_done (by kernel_rfl) ?_
              try simp only [List.drop_succ_cons, List.drop_zero]
              go_wp2_with ((with_reducible refine gate_store 26 (.tmp 3) (.tmp 22) ?_); refine wpList_store_row rfl 26 (.tmp 3) (.tmp 22) rfl W0.heap.size 0 rfl (hdCells (hd0 0)) (hdCells ⟨IntKind.i32.wrap (IntKind.u32.wrap (leV (l.take 4))), Z32, Z32, IntKind.u32.wrap (leV ((l.drop 68).take 4)), IntKind.u32.wrap (leV ((l.drop 72).take 4)), IntKind.u32.wrap (leV ((l.drop 76).take 4))⟩) rfl RN.out (by rw [hdCells_len rfl rfl, hdCells_len rfl rfl]) (sz_hd rfl rfl) (hdCells_one _) ?_; intro W2 hr2 hc2; have HR2 := Lib.hid hr2; have HC2 := Lib.hid hc2; clear hr2 hc2)
              refine KEY.out _ _ _ _ _ _ _ _ _ _ _ _ _ _ _ _ _ _ _ _ _ ?_
              exact ⟨rfl, keeps_chg KA.out HC2.out (Nat.le_refl _), by have h := HR2.out; rw [E0.out, E1.out, E2.out, E3.out] at h; exact h⟩
            exact AllReadyL.nil
          exact AllReadyL.nil
        refine AllReadyL.cons (o := ?_) (by kernel_rfl) ?_ (fun K hK => ?_) ?_
        rotate_left 1
        focus (simp only [List.getElem?_toArray, List.getElem?_cons_succ, List.getElem?_cons_zero]; exact rfl)
        focus
          rw [if_pos (by rfl)]
          go_simp
          refine hK.out _ _ ?_ ?_
          focus exact Lib.hid (KA.out)
          clear hK K hHeld
          intro hHeld
          try simp only [Act.put, List.setIfInBounds_toArray, List.set_cons_zero, List.set_cons_succ]
          refine wpAnyHL_ready (rs := [11]) (by kernel_rfl) (by simp) ?_
          refine AllReadyL.cons (o := ?_) (by kernel_rfl) ?_ (fun K hK => ?_) ?_
          rotate_left 1
          focus (simp only [List.getElem?_toArray, List.getElem?_cons_succ, List.getElem?_cons_zero]; exact rfl)
          focus
            rw [if_pos (by rfl)]
            go_simp
            go_at_call 71; refine (V2.out _ RA.out).mono ?_; rintro r W ⟨rfl, rfl⟩
            refine hK.out _ _ ?_ ?_
            focus exact Lib.hid (KA.out)
            clear hK K hHeld
            intro hHeld
            try simp only [Act.put, List.setIfInBounds_toArray, List.set_cons_zero, List.set_cons_succ]
            refine wpAnyHL_take (i := 12) (oi := ?_) (v := ?_) ?_ ?_ ?_ ?_ ?_ ?_ ?_ ?_ ?_ (Or.inl ⟨?_, ?_⟩) ?_ ?_
            rotate_left 2
            focus (simp only [List.getElem?_toArray, List.getElem?_cons_succ, List.getElem?_cons_zero]; exact rfl)
            iterate 7 focus kernel_rfl
            focus (exact fun _ _ _ h => h)
            focus rfl
            focus ((intro wSw hSw; (have hSw := hSw.out); (try dsimp only at hSw); go_simp) <;> with_reducible rfl)
            focus assumption
            try simp only [Act.put, List.setIfInBounds_toArray, List.set_cons_zero, List.set_cons_succ]
            refine wpAnyHL_ready (rs := [15]) (by kernel_rfl) (by simp) ?_
            refine AllReadyL.cons (o := ?_) (by kernel_rfl) ?_ (fun K hK => ?_) ?_
            rotate_left 1
            focus (simp only [List.getElem?_toArray, List.getElem?_cons_succ, List.getElem?_cons_zero]; exact rfl)
            focus
              rw [if_pos (by rfl)]
              go_simp
              go_at_call 71; refine (V3.out _ RA.out).mono ?_; rintro r W ⟨rfl, rfl⟩
              refine hK.out _ _ ?_ ?_
              focus exact Lib.hid (KA.out)
              clear hK K hHeld
              intro hHeld
              try simp only [Act.put, List.setIfInBounds_toArray, List.set_cons_zero, List.set_cons_succ]
              refine wpAnyHL_take (i := 16) (oi := ?_) (v := ?_) ?_ ?_ ?_ ?_ ?_ ?_ ?_ ?_ ?_ (Or.inl ⟨?_, ?_⟩) ?_ ?_
              rotate_left 2
              focus (simp only [List.getElem?_toArray, List.getElem?_cons_succ, List.getElem?_cons_zero]; exact rfl)
              iterate 7 focus kernel_rfl
              focus (exact fun _ _ _ h => h)
              focus rfl
              focus ((intro wSw hSw; (have hSw := hSw.out); (try dsimp only at hSw); go_simp) <;> with_reducible rfl)
              focus assumption
              try simp only [Act.put, List.setIfInBounds_toArray, List.set_cons_zero, List.set_cons_succ]
              refine wpAnyHL_take (i := 17) (oi := ?_) (v := ?_) ?_ ?_ ?_ ?_ ?_ ?_ ?_ ?_ ?_ (Or.inl ⟨?_, ?_⟩) ?_ ?_
              rotate_left 2
              focus (simp only [List.getElem?_toArray, List.getElem?_cons_succ, List.getElem?_cons_zero]; exact rfl)
              iterate 7 focus kernel_rfl
              focus (exact fun _ _ _ h => h)
              focus rfl
              focus (intro wSw hSw; (have hSw := hSw.out); (refine run_build_at 26 [(0, .tmp 9), (3, .tmp 13), (4, .tmp 17), (5, .tmp 21)] ?_ _ ?_ _ (built_hd4 (IntKind.i32.wrap (IntKind.u32.wrap (leV (l.take 4)))) (IntKind.u32.wrap (leV ((l.drop 68).take 4))) (IntKind.u32.wrap (leV ((l.drop 72).take 4))) (IntKind.u32.wrap (leV ((l.drop 76).take 4))))) <;> rfl)
              focus assumption
              try simp only [Act.put, List.setIfInBounds_toArray, List.set_cons_zero, List.set_cons_succ]
              refine wpAnyHL_done (by kernel_rfl) ?_
              try simp only [List.drop_succ_cons, List.drop_zero]
              go_wp2_with ((with_reducible refine gate_store 26 (.tmp 3) (.tmp 22) ?_); refine wpList_store_row rfl 26 (.tmp 3) (.tmp 22) rfl W0.heap.size 0 rfl (hdCells (hd0 0)) (hdCells ⟨IntKind.i32.wrap (IntKind.u32.wrap (leV (l.take 4))), Z32, Z32, IntKind.u32.wrap (leV ((l.drop 68).take 4)), IntKind.u32.wrap (leV ((l.drop 72).take 4)), IntKind.u32.wrap (leV ((l.drop 76).take 4))⟩) rfl RN.out (by rw [hdCells_len rfl rfl, hdCells_len rfl rfl]) (sz_hd rfl rfl) (hdCells_one _) ?_; intro W2 hr2 hc2; have HR2 := Lib.hid hr2; have HC2 := Lib.hid hc2; clear hr2 hc2)
              refine KEY.out _ _ _ _ _ _ _ _ _ _ _ _ _ _ _ _ _ _ _ _ _ ?_
              exact ⟨rfl, keeps_chg KA.out HC2.out (Nat.le_refl _), by have h := HR2.out; rw [E0.out, E1.out, E2.out, E3.out] at h; exact h⟩
            exact AllReadyL.nil
          exact AllReadyL.nil
        exact AllReadyL.nil
      refine AllReadyL.cons (o := ?_) (by kernel_rfl) ?_ (fun K hK => ?_) ?_
      rotate_left 1
      focus (simp only [List.getElem?_toArray, List.getElem?_cons_succ, List.getElem?_cons_zero]; exact rfl)
      focus
        rw [if_pos (by rfl)]
        go_simp
        refine hK.out _ _ ?_ ?_
        focus exact Lib.hid (KA.out)
        clear hK K hHeld
        intro hHeld
        try simp only [Act.put, List.setIfInBounds_toArray, List.set_cons_zero, List.set_cons_succ]
        refine wpAnyHL_ready (rs := [7]) (by kernel_rfl) (by simp) ?_
        refine AllReadyL.cons (o := ?_) (by kernel_rfl) ?_ (fun K hK => ?_) ?_
        rotate_left 1
        focus (simp only [List.getElem?_toArray, List.getElem?_cons_succ, List.getElem?_cons_zero]; exact rfl)
        focus
          rw [if_pos (by rfl)]
          go_simp
          go_at_call 71; refine (V1.out _ RA.out).mono ?_; rintro r W ⟨rfl, rfl⟩
          refine hK.out _ _ ?_ ?_
          focus exact Lib.hid (KA.out)
          clear hK K hHeld
          intro hHeld
          try simp only [Act.put, List.setIfInBounds_toArray, List.set_cons_zero, List.set_cons_succ]
          refine wpAnyHL_take (i := 8) (oi := ?_) (v := ?_) ?_ ?_ ?_ ?_ ?_ ?_ ?_ ?_ ?_ (Or.inl ⟨?_, ?_⟩) ?_ ?_
          rotate_left 2
          focus (simp only [List.getElem?_toArray, List.getElem?_cons_succ, List.getElem?_cons_zero]; exact rfl)
          iterate 7 focus kernel_rfl
          focus (exact fun _ _ _ h => h)
          focus rfl
          focus ((intro wSw hSw; (have hSw := hSw.out); (try dsimp only at hSw); go_simp) <;> with_reducible rfl)
          focus assumption
          try simp only [Act.put, List.setIfInBounds_toArray, List.set_cons_zero, List.set_cons_succ]
          refine wpAnyHL_ready (rs := [11]) (by kernel_rfl) (by simp) ?_
          refine AllReadyL.cons (o := ?_) (by kernel_rfl) ?_ (fun K hK => ?_) ?_
          rotate_left 1
          focus (simp only [List.getElem?_toArray, List.getElem?_cons_succ, List.getElem?_cons_zero]; exact rfl)
          focus
            rw [if_pos (by rfl)]
            go_simp
            go_at_call 71; refine (V2.out _ RA.out).mono ?_; rintro r W ⟨rfl, rfl⟩
            refine hK.out _ _ ?_ ?_
            focus exact Lib.hid (KA.out)
            clear hK K hHeld
            intro hHeld
            try simp only [Act.put, List.setIfInBounds_toArray, List.set_cons_zero, List.set_cons_succ]
            refine wpAnyHL_take (i := 12) (oi := ?_) (v := ?_) ?_ ?_ ?_ ?_ ?_ ?_ ?_ ?_ ?_ (Or.inl ⟨?_, ?_⟩) ?_ ?_
            rotate_left 2
            focus (simp only [List.getElem?_toArray, List.getElem?_cons_succ, List.getElem?_cons_zero]; exact rfl)
            iterate 7 focus kernel_rfl
            focus (exact fun _ _ _ h => h)
            focus rfl
            focus ((intro wSw hSw; (have hSw := hSw.out); (try dsimp only at hSw); go_simp) <;> with_reducible rfl)
            focus assumption
            try simp only [Act.put, List.setIfInBounds_toArray, List.set_cons_zero, List.set_cons_succ]
            refine wpAnyHL_ready (rs := [15]) (by kernel_rfl) (by simp) ?_
            refine AllReadyL.cons (o := ?_) (by kernel_rfl) ?_ (fun K hK => ?_) ?_
            rotate_left 1
            focus (simp only [List.getElem?_toArray, List.getElem?_cons_succ, List.getElem?_cons_zero]; exact rfl)
            focus
              rw [if_pos (by rfl)]
              go_simp
              go_at_call 71; refine (V3.out _ RA.out).mono ?_; rintro r W ⟨rfl, rfl⟩
              refine hK.out _ _ ?_ ?_
              focus exact Lib.hid (KA.out)
              clear hK K hHeld
              intro hHeld
              try simp only [Act.put, List.setIfInBounds_toArray, List.set_cons_zero, List.set_cons_succ]
              refine wpAnyHL_take (i := 16) (oi := ?_) (v := ?_) ?_ ?_ ?_ ?_ ?_ ?_ ?_ ?_ ?_ (Or.inl ⟨?_, ?_⟩) ?_ ?_
              rotate_left 2
              focus (simp only [List.getElem?_toArray, List.getElem?_cons_succ, List.getElem?_cons_zero]; exact rfl)
              iterate 7 focus kernel_rfl
              focus (exact fun _ _ _ h => h)
              focus rfl
              focus ((intro wSw hSw; (have hSw := hSw.out); (try dsimp only at hSw); go_simp) <;> with_reducible rfl)
              focus assumption
              try simp only [Act.put, List.setIfInBounds_toArray, List.set_cons_zero, List.set_cons_succ]
              refine wpAnyHL_take (i := 17) (oi := ?_) (v := ?_) ?_ ?_ ?_ ?_ ?_ ?_ ?_ ?_ ?_ (Or.inl ⟨?_, ?_⟩) ?_ ?_
              rotate_left 2
              focus (simp only [List.getElem?_toArray, List.getElem?_cons_succ, List.getElem?_cons_zero]; exact rfl)
              iterate 7 focus kernel_rfl
              focus (exact fun _ _ _ h => h)
              focus rfl
              focus (intro wSw hSw; (have hSw := hSw.out); (refine run_build_at 26 [(0, .tmp 9), (3, .tmp 13), (4, .tmp 17), (5, .tmp 21)] ?_ _ ?_ _ (built_hd4 (IntKind.i32.wrap (IntKind.u32.wrap (leV (l.take 4)))) (IntKind.u32.wrap (leV ((l.drop 68).take 4))) (IntKind.u32.wrap (leV ((l.drop 72).take 4))) (IntKind.u32.wrap (leV ((l.drop 76).take 4))))) <;> rfl)
              focus assumption
              try simp only [Act.put, List.setIfInBounds_toArray, List.set_cons_zero, List.set_cons_succ]
              refine wpAnyHL_done (by kernel_rfl) ?_
              try simp only [List.drop_succ_cons, List.drop_zero]
              go_wp2_with ((with_reducible refine gate_store 26 (.tmp 3) (.tmp 22) ?_); refine wpList_store_row rfl 26 (.tmp 3) (.tmp 22) rfl W0.heap.size 0 rfl (hdCells (hd0 0)) (hdCells ⟨IntKind.i32.wrap (IntKind.u32.wrap (leV (l.take 4))), Z32, Z32, IntKind.u32.wrap (leV ((l.drop 68).take 4)), IntKind.u32.wrap (leV ((l.drop 72).take 4)), IntKind.u32.wrap (leV ((l.drop 76).take 4))⟩) rfl RN.out (by rw [hdCells_len rfl rfl, hdCells_len rfl rfl]) (sz_hd rfl rfl) (hdCells_one _) ?_; intro W2 hr2 hc2; have HR2 := Lib.hid hr2; have HC2 := Lib.hid hc2; clear hr2 hc2)
              refine KEY.out _ _ _ _ _ _ _ _ _ _ _ _ _ _ _ _ _ _ _ _ _ ?_
              exact ⟨rfl, keeps_chg KA.out HC2.out (Nat.le_refl _), by have h := HR2.out; rw [E0.out, E1.out, E2.out, E3.out] at h; exact h⟩
            exact AllReadyL.nil
          exact AllReadyL.nil
        exact AllReadyL.nil
      exact AllReadyL.nil
    refine AllReadyL.cons (o := ?_) (by kernel_rfl) ?_ (fun K hK => ?_) ?_
    rotate_left 1
    focus (simp only [List.getElem?_toArray, List.getElem?_cons_succ, List.getElem?_cons_zero]; exact rfl)
    focus
      rw [if_pos (by rfl)]
      go_simp
      refine hK.out _ _ ?_ ?_
      focus exact Lib.hid (KA.out)
      clear hK K hHeld
      intro hHeld
      try simp only [Act.put, List.setIfInBounds_toArray, List.set_cons_zero, List.set_cons_succ]
      refine wpAnyHL_ready (rs := [2]) (by kernel_rfl) (by simp) ?_
      refine AllReadyL.cons (o := ?_) (by kernel_rfl) ?_ (fun K hK => ?_) ?_
      rotate_left 1
      focus (simp only [List.getElem?_toArray, List.getElem?_cons_succ, List.getElem?_cons_zero]; exact rfl)
      focus
        rw [if_pos (by rfl)]
        go_simp
        go_at_call 71; refine (V0.out _ RA.out).mono ?_; rintro r W ⟨rfl, rfl⟩
        refine hK.out _ _ ?_ ?_
        focus exact Lib.hid (KA.out)
        clear hK K hHeld
        intro hHeld
        try simp only [Act.put, List.setIfInBounds_toArray, List.set_cons_zero, List.set_cons_succ]
        refine wpAnyHL_take (i := 3) (oi := ?_) (v := ?_) ?_ ?_ ?_ ?_ ?_ ?_ ?_ ?_ ?_ (Or.inl ⟨?_, ?_⟩) ?_ ?_
        rotate_left 2
        focus (simp only [List.getElem?_toArray, List.getElem?_cons_succ, List.getElem?_cons_zero]; exact rfl)
        iterate 7 focus kernel_rfl
        focus (exact fun _ _ _ h => h)
        focus rfl
        focus ((intro wSw hSw; (have hSw := hSw.out); (try dsimp only at hSw); go_simp) <;> with_reducible rfl)
        focus assumption
        try simp only [Act.put, List.setIfInBounds_toArray, List.set_cons_zero, List.set_cons_succ]
        refine wpAnyHL_take (i := 4) (oi := ?_) (v := ?_) ?_ ?_ ?_ ?_ ?_ ?_ ?_ ?_ ?_ (Or.inl ⟨?_, ?_⟩) ?_ ?_
        rotate_left 2
        focus (simp only [List.getElem?_toArray, List.getElem?_cons_succ, List.getElem?_cons_zero]; exact rfl)
        iterate 7 focus kernel_rfl
        focus (exact fun _ _ _ h => h)
        focus rfl
        focus ((intro wSw hSw; (have hSw := hSw.out); (try dsimp only at hSw); go_simp) <;> with_reducible rfl)
        focus assumption
        try simp only [Act.put, List.setIfInBounds_toArray, List.set_cons_zero, List.set_cons_succ]
        refine wpAnyHL_ready (rs := [7]) (by kernel_rfl) (by simp) ?_
        refine AllReadyL.cons (o := ?_) (by kernel_rfl) ?_ (fun K hK => ?_) ?_
        rotate_left 1
        focus (simp only [List.getElem?_toArray, List.getElem?_cons_succ, List.getElem?_cons_zero]; exact rfl)
        focus
          rw [if_pos (by rfl)]
          go_simp
          go_at_call 71; refine (V1.out _ RA.out).mono ?_; rintro r W ⟨rfl, rfl⟩
          refine hK.out _ _ ?_ ?_
          focus exact Lib.hid (KA.out)
          clear hK K hHeld
          intro hHeld
          try simp only [Act.put, List.setIfInBounds_toArray, List.set_cons_zero, List.set_cons_succ]
          refine wpAnyHL_take (i := 8) (oi := ?_) (v := ?_) ?_ ?_ ?_ ?_ ?_ ?_ ?_ ?_ ?_ (Or.inl ⟨?_, ?_⟩) ?_ ?_
          rotate_left 2
          focus (simp only [List.getElem?_toArray, List.getElem?_cons_succ, List.getElem?_cons_zero]; exact rfl)
          iterate 7 focus kernel_rfl
          focus (exact fun _ _ _ h => h)
          focus rfl
          focus ((intro wSw hSw; (have hSw := hSw.out); (try dsimp only at hSw); go_simp) <;> with_reducible rfl)
          focus assumption
          try simp only [Act.put, List.setIfInBounds_toArray, List.set_cons_zero, List.set_cons_succ]
          refine wpAnyHL_ready (rs := [11]) (by kernel_rfl) (by simp) ?_
          refine AllReadyL.cons (o := ?_) (by kernel_rfl) ?_ (fun K hK => ?_) ?_
          rotate_left 1
          focus (simp only [List.getElem?_toArray, List.getElem?_cons_succ, List.getElem?_cons_zero]; exact rfl)
          focus
            rw [if_pos (by rfl)]
            go_simp
            go_at_call 71; refine (V2.out _ RA.out).mono ?_; rintro r W ⟨rfl, rfl⟩
            refine hK.out _ _ ?_ ?_
            focus exact Lib.hid (KA.out)
            clear hK K hHeld
            intro hHeld
            try simp only [Act.put, List.setIfInBounds_toArray, List.set_cons_zero, List.set_cons_succ]
            refine wpAnyHL_take (i := 12) (oi := ?_) (v := ?_) ?_ ?_ ?_ ?_ ?_ ?_ ?_ ?_ ?_ (Or.inl ⟨?_, ?_⟩) ?_ ?_
            rotate_left 2
            focus (simp only [List.getElem?_toArray, List.getElem?_cons_succ, List.getElem?_cons_zero]; exact rfl)
            iterate 7 focus kernel_rfl
            focus (exact fun _ _ _ h => h)
            focus rfl
            focus ((intro wSw hSw; (have hSw := hSw.out); (try dsimp only at hSw); go_simp) <;> with_reducible rfl)
            focus assumption
            try simp only [Act.put, List.setIfInBounds_toArray, List.set_cons_zero, List.set_cons_succ]
            refine wpAnyHL_ready (rs := [15]) (by kernel_rfl) (by simp) ?_
            refine AllReadyL.cons (o := ?_) (by kernel_rfl) ?_ (fun K hK => ?_) ?_
            rotate_left 1
            focus (simp only [List.getElem?_toArray, List.getElem?_cons_succ, List.getElem?_cons_zero]; exact rfl)
            focus
              rw [if_pos (by rfl)]
              go_simp
              go_at_call 71; refine (V3.out _ RA.out).mono ?_; rintro r W ⟨rfl, rfl⟩
              refine hK.out _ _ ?_ ?_
              focus exact Lib.hid (KA.out)
              clear hK K hHeld
              intro hHeld
              try simp only [Act.put, List.setIfInBounds_toArray, List.set_cons_zero, List.set_cons_succ]
              refine wpAnyHL_take (i := 16) (oi := ?_) (v := ?_) ?_ ?_ ?_ ?_ ?_ ?_ ?_ ?_ ?_ (Or.inl ⟨?_, ?_⟩) ?_ ?_
              rotate_left 2
              focus (simp only [List.getElem?_toArray, List.getElem?_cons_succ, List.getElem?_cons_zero]; exact rfl)
              iterate 7 focus kernel_rfl
              focus (exact fun _ _ _ h => h)
              focus rfl
              focus ((intro wSw hSw; (have hSw := hSw.out); (try dsimp only at hSw); go_simp) <;> with_reducible rfl)
              focus assumption
              try simp only [Act.put, List.setIfInBounds_toArray, List.set_cons_zero, List.set_cons_succ]
              refine wpAnyHL_take (i := 17) (oi := ?_) (v := ?_) ?_ ?_ ?_ ?_ ?_ ?_ ?_ ?_ ?_ (Or.inl ⟨?_, ?_⟩) ?_ ?_
              rotate_left 2
              focus (simp only [List.getElem?_toArray, List.getElem?_cons_succ, List.getElem?_cons_zero]; exact rfl)
              iterate 7 focus kernel_rfl
              focus (exact fun _ _ _ h => h)
              focus rfl
              focus (intro wSw hSw; (have hSw := hSw.out); (refine run_build_at 26 [(0, .tmp 9), (3, .tmp 13), (4, .tmp 17), (5, .tmp 21)] ?_ _ ?_ _ (built_hd4 (IntKind.i32.wrap (IntKind.u32.wrap (leV (l.take 4)))) (IntKind.u32.wrap (leV ((l.drop 68).take 4))) (IntKind.u32.wrap (leV ((l.drop 72).take 4))) (IntKind.u32.wrap (leV ((l.drop 76).take 4))))) <;> rfl)
              focus assumption
              try simp only [Act.put, List.setIfInBounds_toArray, List.set_cons_zero, List.set_cons_succ]
              refine wpAnyHL_done (by kernel_rfl) ?_
              try simp only [List.drop_succ_cons, List.drop_zero]
              go_wp2_with ((with_reducible refine gate_store 26 (.tmp 3) (.tmp 22) ?_); refine wpList_store_row rfl 26 (.tmp 3) (.tmp 22) rfl W0.heap.size 0 rfl (hdCells (hd0 0)) (hdCells ⟨IntKind.i32.wrap (IntKind.u32.wrap (leV (l.take 4))), Z32, Z32, IntKind.u32.wrap (leV ((l.drop 68).take 4)), IntKind.u32.wrap (leV ((l.drop 72).take 4)), IntKind.u32.wrap (leV ((l.drop 76).take 4))⟩) rfl RN.out (by rw [hdCells_len rfl rfl, hdCells_len rfl rfl]) (sz_hd rfl rfl) (hdCells_one _) ?_; intro W2 hr2 hc2; have HR2 := Lib.hid hr2; have HC2 := Lib.hid hc2; clear hr2 hc2)
              refine KEY.out _ _ _ _ _ _ _ _ _ _ _ _ _ _ _ _ _ _ _ _ _ ?_
              exact ⟨rfl, keeps_chg KA.out HC2.out (Nat.le_refl _), by have h := HR2.out; rw [E0.out, E1.out, E2.out, E3.out] at h; exact h⟩
            exact AllReadyL.nil
          exact AllReadyL.nil
        exact AllReadyL.nil
      exact AllReadyL.nil
    exact AllReadyL.nil
  intro us W1 hl hj
  match us, hl with
  | [u1, u2, u3, u4, u5, u6, u7, u8, u9, u10, u11, u12, u13, u14, u15, u16, u17, u18, u19, u20], _ =>
  simp only [putAll, Act.put, List.setIfInBounds_toArray, List.set_cons_zero, List.set_cons_succ]
  clear hK1 K1
  obtain ⟨hu, hk1, hrow1⟩ := hj
  have hu1 : u1 = .pointer (some ⟨W0.heap.size, 0, none⟩) := hu
  subst hu1
  clear hu
  have hgq : g < W0.heap.size := by
    obtain ⟨_, a, c, e, _, _, _, h5⟩ := HR0.out
    cases e
    obtain ⟨g', off', e, hg, _⟩ := h5 _ rfl (by omega)
    cases e
    exact hg
  have hsrc : Row W1 g off (l.map (Value.int .u8)) := by
    obtain ⟨_, a, c, e, _, _, _, h5⟩ := HR0.out.keeps hk1
    cases e
    obtain ⟨g', off', e, hg, hr⟩ := h5 _ rfl (by omega)
    cases e
    exact hr
  have hpq : p < W0.heap.size := by have := HSZ.out; omega
  have hrp : Row W1 p 0 (hdCells (hd0 0)) := HR1.out.keeps hk1
  have HK1 := Lib.hid (HK.out.trans hk1)
  obtain ⟨q, hq⟩ : ∃ q, q = W0.heap.size := ⟨_, rfl⟩
  have hwq : w.heap.size ≤ q := by have := HSZ.out; have := HP.out; omega
  rw [← hq] at hrow1 hgq hpq ⊢
  have HSRC := Lib.hid hsrc; have HRP := Lib.hid hrp; have HROW := Lib.hid hrow1; have HWQ := Lib.hid hwq
  clear hk1 hrow1 hsrc hrp hq HK HR1 HR0 hwq HSZ
  have HEND := Lib.hid (show Ending.returned (.agg (hdCells ⟨toI32 (leV (l.take 4)), (l.drop 4).take 32, (l.drop 36).take 32, leV ((l.drop 68).take 4), leV ((l.drop 72).take 4), leV ((l.drop 76).take 4)⟩).toArray) = .returned (.agg (hdCells (headOf l)).toArray) from rfl)
  generalize toI32 (leV (l.take 4)) = ver at *
  generalize leV ((l.drop 68).take 4) = tm at *
  generalize leV ((l.drop 72).take 4) = bt at *
  generalize leV ((l.drop 76).take 4) = nn at *
  go_upto_region 3 with (fail)
  go_loopw [4] (fun c wr => ∃ i : Nat, i ≤ 32 ∧ c = .int .i64 i ∧ Hid (Chg (· = q) W1 wr) ∧ Hid (Row wr q 0 (hdCells ⟨ver, padN i (l.drop 4), padN i (l.drop 36), tm, bt, nn⟩))) (fun c _ => (32 - intOf c).toNat)
  case atStart => exact ⟨0, by omega, by go_num, Lib.hid (Chg.refl _ _), HROW⟩
  case round =>
    obtain ⟨i, hi, rfl, hc, hrow⟩ := hrel
    by_cases h32 : i < 32
    focus
      have hii : (i : Int) < 32 := by omega
      have hz : Row wr g off (l.map (Value.int .u8)) := HSRC.out.chg hc.out (by omega)
      have hg1 := hz (4 + i) (.int .u8 (l.getD (4 + i) 0)) (by rw [List.getElem?_map, List.getD, List.getElem?_eq_getElem (by omega : 4 + i < l.length)]; rfl)
      have hs1 := hd_cellA hrow.out (by rw [padN_len (by omega) (by simp; omega)]) i h32
      have hr0 : (IntKind.i64.wrap (4 + (i : Int))) = ((4 + i : Nat) : Int) := by rw [IntKind.wrap_i64]; omega
      have ht0 : (((4 + i : Nat) : Int)).toNat = 4 + i := Int.toNat_natCast _
      have hlt : ((4 + i : Nat) : Int) < (l.length : Int) := by omega
      have hge : (0 : Int) ≤ ((4 + i : Nat) : Int) := by omega
      obtain ⟨hc1, hf1⟩ := hs1
      obtain ⟨hc0, -⟩ := hg1
      go_upto_region 5 with (fail)
      go_upto_region 6 with (fail)
      have hx1 : l[4 + i]?.getD 0 = (l.drop 4).getD i 0 := by rw [List.getD, List.getElem?_drop]
      have hrow2 := hrow.out.set (1 + i) (by rw [hdCells_len (padN_len (by omega) (by simp; omega)) (padN_len (by omega) (by simp; omega))]; omega) (.int .u8 (l[4 + i]?.getD 0))
      rw [Nat.zero_add, hd_setA _ (padN_len (by omega) (by simp; omega)) h32, hx1] at hrow2
      simp only [padN_set h32 (show i < (l.drop 4).length by simp; omega)] at hrow2
      have hch2 : Chg (· = q) W1 (wr.setCell ⟨q, 1 + i, none⟩ (.int .u8 (l[4 + i]?.getD 0))) := hc.out.trans (Chg.cell q (1 + i) _)
      rw [← hx1] at hrow2
      have HR2 := Lib.hid hrow2; have HC2 := Lib.hid hch2
      clear hrow2 hch2 hrow hc hc1 hf1 hc0 hz hr0 ht0 hlt hge
      generalize wr.setCell ⟨q, 1 + i, none⟩ (.int .u8 (l[4 + i]?.getD 0)) = W2 at *
      have hz : Row W2 g off (l.map (Value.int .u8)) := HSRC.out.chg HC2.out (by omega)
      have hg1 := hz (36 + i) (.int .u8 (l.getD (36 + i) 0)) (by rw [List.getElem?_map, List.getD, List.getElem?_eq_getElem (by omega : 36 + i < l.length)]; rfl)
      have hs1 := hd_cellB HR2.out (padN_len (by omega) (by simp; omega)) (padN_len (by omega) (by simp; omega)) i h32
      have hr0 : (IntKind.i64.wrap (36 + (i : Int))) = ((36 + i : Nat) : Int) := by rw [IntKind.wrap_i64]; omega
      have ht0 : (((36 + i : Nat) : Int)).toNat = 36 + i := Int.toNat_natCast _
      have hlt : ((36 + i : Nat) : Int) < (l.length : Int) := by omega
      have hge : (0 : Int) ≤ ((36 + i : Nat) : Int) := by omega
      obtain ⟨hc1, hf1⟩ := hs1
      obtain ⟨hc0, -⟩ := hg1
      go_upto_region 4 with (fail)
      have hx2 : l[36 + i]?.getD 0 = (l.drop 36).getD i 0 := by rw [List.getD, List.getElem?_drop]
      have hrow3 := HR2.out.set (33 + i) (by rw [hdCells_len (padN_len (by omega) (by simp; omega)) (padN_len (by omega) (by simp; omega))]; omega) (.int .u8 (l[36 + i]?.getD 0))
      rw [Nat.zero_add, hd_setB _ (padN_len (by omega) (by simp; omega)) (padN_len (by omega) (by simp; omega)) h32, hx2] at hrow3
      simp only [padN_set h32 (show i < (l.drop 36).length by simp; omega)] at hrow3
      rw [← hx2] at hrow3
      have hch3 : Chg (· = q) W1 (W2.setCell ⟨q, 33 + i, none⟩ (.int .u8 (l[36 + i]?.getD 0))) := HC2.out.trans (Chg.cell q (33 + i) _)
      have HR3 := Lib.hid hrow3; have HC3 := Lib.hid hch3
      clear hrow3 hch3 hc1 hf1 hc0 hz hr0 ht0 hlt hge
      generalize W2.setCell ⟨q, 33 + i, none⟩ (.int .u8 (l[36 + i]?.getD 0)) = W3 at *
      go_wp2
      go_roundw
      case rel => exact ⟨i + 1, by omega, by go_num, HC3, HR3⟩
      case measure => show (32 - ((i + 1 : Nat) : Int)).toNat < (32 - (i : Int)).toNat; omega
    focus
      have hii : ¬ (i : Int) < 32 := by omega
      obtain rfl : i = 32 := by omega
      have hz : Row wr p 0 (hdCells (hd0 0)) := HRP.out.chg hc.out (by omega)
      have hl1 := padN_len (i := 32) (xs := l.drop 4) (by omega) (by simp; omega)
      have hl2 := padN_len (i := 32) (xs := l.drop 36) (by omega) (by simp; omega)
      have HZ := Lib.hid hz; have HL1 := Lib.hid hl1; have HL2 := Lib.hid hl2
      clear hz hl1 hl2
      go_wp2_with (first
        | ((with_reducible refine gate_load 26 (.tmp 3) ?_); refine wpList_load_at rfl 26 (.tmp 3) rfl q 0 rfl _ _ hrow.out Tryz.underlying26 rfl (sz_hd HL1.out HL2.out) ?_)
        | ((with_reducible refine gate_store 26 (.tmp 2) (.tmp 43) ?_); refine wpList_store_row rfl 26 (.tmp 2) (.tmp 43) rfl p 0 rfl (hdCells (hd0 0)) (hdCells _) rfl HZ.out (by rw [hdCells_len HL1.out HL2.out, hdCells_len rfl rfl]) (sz_hd HL1.out HL2.out) (hdCells_one _) ?_; intro W8 hr8 hc8; have HR8 := Lib.hid hr8; have HC8 := Lib.hid hc8; clear hr8 hc8))
      refine bodyPost_ret (results_cell_at rfl _ _ p 0 _ _ (by simp only [Act.put, List.setIfInBounds_toArray, List.set_cons_zero, List.set_cons_succ]; rfl) HR8.out Tryz.underlying26 rfl (sz_hd HL1.out HL2.out)) rfl ?_
      refine ⟨keeps_chg (keeps_chg HK1.out hc.out HWQ.out) HC8.out (by have := HP.out; omega), ?_⟩
      have e1 : padN 32 (l.drop 4) = (l.drop 4).take 32 := by simp [padN, Z32]
      have e2 : padN 32 (l.drop 36) = (l.drop 36).take 32 := by simp [padN, Z32]
      rw [e1, e2]
      exact HEND.out
end Go.Proofs.YtcodpdpeklammaaGreatDoor
