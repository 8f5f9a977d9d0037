/- Both Coinbase. -/
import Derived.Test.YtcodpdpeklammaaGD2
import Derived.BigQuiet
namespace Go.Proofs.Ytcodpdpeklammaa
set_option linter.unusedVariables false
set_option linter.unusedSimpArgs false
open Go Go.RowKit

def zero32 : List Int := List.replicate 32 0
theorem zero32_len : zero32.length = 32 := rfl
theorem zero32_bytes : Bytes zero32 := by unfold Bytes Byte zero32; decide
def isEmptyD (d : InD) : Bool := decide (d.hash = zero32 ∧ d.index = 4294967295)
def cbD (d : TxD) : Bool := match d.ins with
  | [x] => isEmptyD x
  | _ => false
theorem wpList_eql_at {P : Program} {ops : Array Oper} {rest : List Oper} {o : Oper} {a : Act} {w : World} {Q : Exit → Act → World → Prop} (hw : Region.wanted o (yielded ops a.tmps) = true) (t t' : TypeId) (x y : Operand) (ho : o.op = .binOp .eql t x y t') (A B : Array Value) (hx : a.eval x = .agg A) (hy : a.eval y = .agg B) (r : Bool)
    (hE : ∀ W, (Op.equalIn 10000 t (.agg A) (.agg B)).run P W = .ok r W) (hm : P.eqGuardType P.depth t = false) (h : wpList P ops Q rest (a.put o.dst (.bool r)) w) : wpList P ops Q (o :: rest) a w :=
  BigFrame.wpList_want hw fun _ hK => by
    unfold Oper.wp execOp
    simp only [ho, hx, hy]
    simp only [Sem.run_bind, Sem.run_pure, run_eqGuard_agg _ _ _ _ _ _ _ hm, run_eql_struct, hE, Result.andThen_ok]
    exact hK _ _ h
theorem wpList_load_on {P : Program} {ops : Array Oper} {rest : List Oper} {o : Oper} {a : Act} {w : World} {Q : Exit → Act → World → Prop} (hw : Region.wanted o (yielded ops a.tmps) = true) (ty : TypeId) (x : Operand) (ho : o.op = .load ty x)
    (g off : Nat) (hx : a.eval x = .pointer (some ⟨g, off, none⟩)) (cs : List Value) (d : TypeDesc) (hg : Row w g off cs)
    (hu : P.underlying ty = some d) (hd : (match d with | .struct _ | .array _ _ => true | _ => false) = true) (hi : (P.info? ty).map (·.size) = some cs.length)
    (h : wpList P ops Q rest (a.put o.dst (.agg cs.toArray)) w) : wpList P ops Q (o :: rest) a w :=
  BigFrame.wpList_want hw fun _ hK => by
    unfold Oper.wp execOp
    simp only [ho, hx, Instr.loadAt, Instr.sureAddr, Sem.run_bind, Sem.run_pure, Result.andThen_ok, run_loadVar_at w g off ty cs d hg hu hd hi]
    exact hK _ _ h
theorem sz_pt (h : List Int) (x : Int) (hl : h.length = 32) : (Try.prog.info? 42).map (·.size) = some (ptCells h x).length := by rw [show (ptCells h x).length = 33 by simp [ptCells, hl]]; kernel_rfl
def emptyCells : List Value := [.int .u8 0, .int .u8 0, .int .u8 0, .int .u8 0, .int .u8 0, .int .u8 0, .int .u8 0, .int .u8 0, .int .u8 0, .int .u8 0, .int .u8 0, .int .u8 0, .int .u8 0, .int .u8 0, .int .u8 0, .int .u8 0, .int .u8 0, .int .u8 0, .int .u8 0, .int .u8 0, .int .u8 0, .int .u8 0, .int .u8 0, .int .u8 0, .int .u8 0, .int .u8 0, .int .u8 0, .int .u8 0, .int .u8 0, .int .u8 0, .int .u8 0, .int .u8 0, .int .u32 4294967295]
theorem emptyCells_pt : emptyCells = ptCells zero32 4294967295 := by simp [emptyCells, ptCells, zero32, List.replicate]
set_option maxRecDepth 100000 in
set_option maxHeartbeats 1000000 in
theorem empty_any (w : World) : Calls Try.prog 44 #[] w fun e w' => e = .returned (.agg (ptCells zero32 4294967295).toArray) ∧ Keeps w w' := by
  have HB := Lib.hid (show Try.prog.built 42 [(1, .int .u32 4294967295)] = some emptyCells.toArray by kernel_rfl)
  have hl : emptyCells.length = 33 := rfl
  have ho : ∀ v ∈ emptyCells, v.oneCell' = true := by rw [emptyCells_pt]; intro v hv; simp only [ptCells, List.mem_append, List.mem_map, List.mem_singleton] at hv; rcases hv with ⟨_, _, rfl⟩ | rfl <;> rfl
  have hsz : (Try.prog.info? 42).map (·.size) = some emptyCells.length := by kernel_rfl
  rw [← emptyCells_pt]
  have HL := Lib.hid hl; have HO := Lib.hid ho; have HS := Lib.hid hsz
  clear hl ho hsz
  generalize emptyCells = EC at *
  go_enter Try.func44, Try.ntmps44
  go_wp2_with (first | (refine wpList_build_at rfl 42 _ rfl [(1, .int .u32 4294967295)] (by simp only [List.map_toArray, List.map_cons, List.map_nil]; rfl) _ HB.out ?_) | (refine wpList_store_row rfl 42 (.tmp 0) (.tmp 1) rfl w.heap.size 0 rfl (List.replicate 32 (.int .u8 0) ++ [.int .u32 0]) EC rfl (Row.new _ _ _ rfl) (by rw [HL.out]; rfl) HS.out HO.out ?_; intro W9 hr9 hc9; have HR9 := Lib.hid hr9; have HC9 := Lib.hid hc9; clear hr9 hc9))
  refine bodyPost_ret (results_cell_at rfl _ _ w.heap.size 0 EC _ (by simp only [Act.put, List.setIfInBounds_toArray, List.set_cons_zero, List.set_cons_succ]; rfl) HR9.out Try.underlying42 rfl HS.out) rfl ?_
  exact ⟨rfl, keeps_chg (keeps_alloc (Keeps.refl _) _) HC9.out (Nat.le_refl _)⟩
/-- the first input's place, its cells -/
theorem first_pt {w : World} {b o : Nat} {d : InD} {sv wv : Value} (h : Row w b o (inCells d sv wv)) (hl : d.hash.length = 32) : Row w b o (ptCells d.hash d.index) := by
  have := h.take 33
  rw [inCells_point, List.take_append_of_le_length (by rw [pointCells_length _ hl]; exact Nat.le_refl _), List.take_of_length_le (by rw [pointCells_length _ hl]; exact Nat.le_refl _)] at this
  exact this
theorem cbD_one {d : TxD} {x : InD} (h : d.ins[0]? = some x) (hl : d.ins.length = 1) : cbD d = isEmptyD x := by
  unfold cbD
  match hd : d.ins, hl with
  | [y], _ => rw [hd] at h; cases h; rfl
theorem cbD_not {d : TxD} (hl : d.ins.length ≠ 1) : cbD d = false := by
  unfold cbD
  match hd : d.ins with
  | [] => rfl
  | [y] => rw [hd] at hl; exact absurd rfl hl
  | _ :: _ :: _ => rfl
set_option maxRecDepth 100000 in
set_option maxHeartbeats 2000000 in
theorem coinbase_any (S T R : Nat → Prop) (d : TxD) (iv ov : Value) (w : World) (h : RTx S T R w iv ov d) :
    Calls Try.prog 15 #[.agg #[.int .i32 d.ver, iv, ov, .int .u32 d.lock]] w fun e w' => e = .returned (.bool (cbD d)) ∧ Keeps w w' := by
  have HI := Lib.hid h.ins
  obtain ⟨ia, ic, rfl, hic, hicm, -⟩ := h.ins.any
  obtain ⟨oa, oc, rfl, -⟩ := h.outs.any
  have hism : d.ins.length * 96 ≤ 140737488355328 := by obtain ⟨_, _, h⟩ := h.ins; exact h.small
  clear h
  by_cases c1 : d.ins.length = 1
  · obtain ⟨g, off, sv, wv, di, rfl, hg, hdi, hrow, hrin⟩ := HI.out.at 0 (by omega)
    rw [cbD_one hdi c1]
    have hpt := first_pt hrow hrin.ok.hashLen
    rw [Nat.zero_mul, Nat.add_zero] at hpt
    have HPT := Lib.hid hpt; have HOK := Lib.hid hrin.ok
    have HEQ := Lib.hid (fun W => pt_equal W di.hash zero32 di.index 4294967295 hrin.ok.hashLen hrin.ok.hash hrin.ok.index zero32_len zero32_bytes ⟨by omega, by omega⟩)
    clear hpt hrow hrin
    unfold isEmptyD
    generalize decide (di.hash = zero32 ∧ di.index = 4294967295) = EB at *
    have HEM := Lib.hid empty_any
    generalize ptCells zero32 4294967295 = EC at *
    rw [c1] at *
    go_enter Try.func15, Try.ntmps15
    go_upto_region 1 with (fail)
    refine wp_rows1 (fun W0 hk hr1 hs1 => ?_)
    simp only at hr1
    have HK := Lib.hid hk; have HR := Lib.hid hr1
    clear hk hr1 hs1
    have hfa : ∀ W, Keeps W0 W → W.cell? ⟨w.heap.size, 1, none⟩ = some (.slice (some ⟨g, off, none⟩) 1 ic) := fun W hk => by
      obtain ⟨_, h1, _, _⟩ := (HR.out.keeps hk).cell4
      exact h1
    have HFA := Lib.hid hfa
    clear hfa
    generalize w.heap.size = p at *
    refine wp_region_head (S := fun W => Hid ((fun W => Keeps W0 W ∧ W.cell? ⟨p, 1, none⟩ = some (.slice (some ⟨g, off, none⟩) 1 ic)) W)) 11 (by kernel_rfl) (by kernel_rfl) ?_ (fun hHeld => ?_)
    focus exact Lib.hid ⟨keeps_drew (Keeps.refl _), HFA.out _ (keeps_drew (Keeps.refl _))⟩
    refine wpAnyHL_take (i := 0) (oi := ?_) (v := ?_) ?_ ?_ ?_ ?_ ?_ ?_ ?_ ?_ ?_ (Or.inl ⟨?_, ?_⟩) ?_ ?_
    rotate_left 2
    focus (simp only [List.getElem?_toArray, List.getElem?_cons_succ, List.getElem?_cons_zero]; exact rfl)
    focus kernel_rfl
    focus kernel_rfl
    focus kernel_rfl
    focus kernel_rfl
    focus kernel_rfl
    focus kernel_rfl
    focus kernel_rfl
    focus (exact fun _ _ _ h => h)
    focus rfl
    focus ((intro wSw hSw; (have hSw := hSw.out); (try dsimp only at hSw); go_simp) <;> with_reducible rfl)
    focus assumption
    try simp only [Act.put, List.setIfInBounds_toArray, List.set_cons_zero, List.set_cons_succ]
    refine wpAnyHL_take (i := 1) (oi := ?_) (v := ?_) ?_ ?_ ?_ ?_ ?_ ?_ ?_ ?_ ?_ (Or.inl ⟨?_, ?_⟩) ?_ ?_
    rotate_left 2
    focus (simp only [List.getElem?_toArray, List.getElem?_cons_succ, List.getElem?_cons_zero]; exact rfl)
    focus kernel_rfl
    focus kernel_rfl
    focus kernel_rfl
    focus kernel_rfl
    focus kernel_rfl
    focus kernel_rfl
    focus kernel_rfl
    focus (exact fun _ _ _ h => h)
    focus rfl
    focus ((intro wSw hSw; (have hSw := hSw.out); (try dsimp only at hSw); go_simp) <;> with_reducible rfl)
    focus assumption
    try simp only [Act.put, List.setIfInBounds_toArray, List.set_cons_zero, List.set_cons_succ]
    refine wpAnyHL_take (i := 2) (oi := ?_) (v := ?_) ?_ ?_ ?_ ?_ ?_ ?_ ?_ ?_ ?_ (Or.inl ⟨?_, ?_⟩) ?_ ?_
    rotate_left 2
    focus (simp only [List.getElem?_toArray, List.getElem?_cons_succ, List.getElem?_cons_zero]; exact rfl)
    focus kernel_rfl
    focus kernel_rfl
    focus kernel_rfl
    focus kernel_rfl
    focus kernel_rfl
    focus kernel_rfl
    focus kernel_rfl
    focus (exact fun _ _ _ h => h)
    focus rfl
    focus ((intro wSw hSw; (have hSw := hSw.out); (try dsimp only at hSw); go_simp) <;> with_reducible rfl)
    focus assumption
    try simp only [Act.put, List.setIfInBounds_toArray, List.set_cons_zero, List.set_cons_succ]
    refine wpAnyHL_take (i := 3) (oi := ?_) (v := ?_) ?_ ?_ ?_ ?_ ?_ ?_ ?_ ?_ ?_ (Or.inl ⟨?_, ?_⟩) ?_ ?_
    rotate_left 2
    focus (simp only [List.getElem?_toArray, List.getElem?_cons_succ, List.getElem?_cons_zero]; exact rfl)
    focus kernel_rfl
    focus kernel_rfl
    focus kernel_rfl
    focus kernel_rfl
    focus kernel_rfl
    focus kernel_rfl
    focus kernel_rfl
    focus (exact fun _ _ _ h => h)
    focus rfl
    focus ((intro wSw hSw; (have hSw := hSw.out); (try dsimp only at hSw); go_simp) <;> with_reducible rfl)
    focus assumption
    try simp only [Act.put, List.setIfInBounds_toArray, List.set_cons_zero, List.set_cons_succ]
    refine wpAnyHL_take (i := 4) (oi := ?_) (v := ?_) ?_ ?_ ?_ ?_ ?_ ?_ ?_ ?_ ?_ (Or.inl ⟨?_, ?_⟩) ?_ ?_
    rotate_left 2
    focus (simp only [List.getElem?_toArray, List.getElem?_cons_succ, List.getElem?_cons_zero]; exact rfl)
    focus kernel_rfl
    focus kernel_rfl
    focus kernel_rfl
    focus kernel_rfl
    focus kernel_rfl
    focus kernel_rfl
    focus kernel_rfl
    focus (exact fun _ _ _ h => h)
    focus rfl
    focus ((intro wSw hSw; (have hSw := hSw.out); (try dsimp only at hSw); go_simp) <;> with_reducible rfl)
    focus assumption
    try simp only [Act.put, List.setIfInBounds_toArray, List.set_cons_zero, List.set_cons_succ]
    refine wpAnyHL_take (i := 5) (oi := ?_) (v := ?_) ?_ ?_ ?_ ?_ ?_ ?_ ?_ ?_ ?_ (Or.inl ⟨?_, ?_⟩) ?_ ?_
    rotate_left 2
    focus (simp only [List.getElem?_toArray, List.getElem?_cons_succ, List.getElem?_cons_zero]; exact rfl)
    focus kernel_rfl
    focus kernel_rfl
    focus kernel_rfl
    focus kernel_rfl
    focus kernel_rfl
    focus kernel_rfl
    focus kernel_rfl
    focus (exact fun _ _ _ h => h)
    focus rfl
    focus ((intro wSw hSw; (have hSw := hSw.out); (try dsimp only at hSw); go_simp) <;> with_reducible rfl)
    focus assumption
    try simp only [Act.put, List.setIfInBounds_toArray, List.set_cons_zero, List.set_cons_succ]
    refine wpAnyHL_take (i := 6) (oi := ?_) (v := ?_) ?_ ?_ ?_ ?_ ?_ ?_ ?_ ?_ ?_ (Or.inl ⟨?_, ?_⟩) ?_ ?_
    rotate_left 2
    focus (simp only [List.getElem?_toArray, List.getElem?_cons_succ, List.getElem?_cons_zero]; exact rfl)
    focus kernel_rfl
    focus kernel_rfl
    focus kernel_rfl
    focus kernel_rfl
    focus kernel_rfl
    focus kernel_rfl
    focus kernel_rfl
    focus (exact fun _ _ _ h => h)
    focus rfl
    focus ((intro wSw hSw; (have hSw := hSw.out); (try dsimp only at hSw); go_simp) <;> with_reducible rfl)
    focus assumption
    try simp only [Act.put, List.setIfInBounds_toArray, List.set_cons_zero, List.set_cons_succ]
    refine wpAnyHL_take (i := 7) (oi := ?_) (v := ?_) ?_ ?_ ?_ ?_ ?_ ?_ ?_ ?_ ?_ (Or.inl ⟨?_, ?_⟩) ?_ ?_
    rotate_left 2
    focus (simp only [List.getElem?_toArray, List.getElem?_cons_succ, List.getElem?_cons_zero]; exact rfl)
    focus kernel_rfl
    focus kernel_rfl
    focus kernel_rfl
    focus kernel_rfl
    focus kernel_rfl
    focus kernel_rfl
    focus kernel_rfl
    focus (exact fun _ _ _ h => h)
    focus rfl
    focus ((intro wSw hSw; (have hSw := hSw.out); (try dsimp only at hSw); go_simp) <;> with_reducible rfl)
    focus assumption
    try simp only [Act.put, List.setIfInBounds_toArray, List.set_cons_zero, List.set_cons_succ]
    refine wpAnyHL_take (i := 8) (oi := ?_) (v := ?_) ?_ ?_ ?_ ?_ ?_ ?_ ?_ ?_ ?_ (Or.inl ⟨?_, ?_⟩) ?_ ?_
    rotate_left 2
    focus (simp only [List.getElem?_toArray, List.getElem?_cons_succ, List.getElem?_cons_zero]; exact rfl)
    focus kernel_rfl
    focus kernel_rfl
    focus kernel_rfl
    focus kernel_rfl
    focus kernel_rfl
    focus kernel_rfl
    focus kernel_rfl
    focus (exact fun _ _ _ h => h)
    focus rfl
    focus ((intro wSw hSw; (have hSw := hSw.out); (try dsimp only at hSw); go_simp) <;> with_reducible rfl)
    focus assumption
    try simp only [Act.put, List.setIfInBounds_toArray, List.set_cons_zero, List.set_cons_succ]
    refine wpAnyHL_take (i := 9) (oi := ?_) (v := ?_) ?_ ?_ ?_ ?_ ?_ ?_ ?_ ?_ ?_ (Or.inl ⟨?_, ?_⟩) ?_ ?_
    rotate_left 2
    focus (simp only [List.getElem?_toArray, List.getElem?_cons_succ, List.getElem?_cons_zero]; exact rfl)
    focus kernel_rfl
    focus kernel_rfl
    focus kernel_rfl
    focus kernel_rfl
    focus kernel_rfl
    focus kernel_rfl
    focus kernel_rfl
    focus (exact fun _ _ _ h => h)
    focus rfl
    focus (intro wSw hSw; (have hSw := hSw.out); (refine run_load_row 42 (.tmp 11) ?_ g off ?_ (ptCells di.hash di.index) _ (HPT.out.keeps (HK.out.trans hSw.1)) Try.underlying42 rfl (sz_pt _ _ HOK.out.hashLen)) <;> rfl)
    focus assumption
    try simp only [Act.put, List.setIfInBounds_toArray, List.set_cons_zero, List.set_cons_succ]
    refine wpAnyHL_one (i := 10) (o := ?_) (by kernel_rfl) (by kernel_rfl) ?_ ?_
    rotate_left 1
    focus (simp only [List.getElem?_toArray, List.getElem?_cons_succ, List.getElem?_cons_zero]; exact rfl)
    go_wp2_with (go_at_call 44; refine (HEM.out _).mono ?_; rintro e W6 ⟨rfl, hk6⟩; have HK6 := Lib.hid hk6; clear hk6)
    try dsimp only [StepQ]
    refine ⟨?_, fun hHeld => ?_⟩
    focus (exact Lib.hid (⟨hHeld.out.1.trans HK6.out, HFA.out _ (hHeld.out.1.trans HK6.out)⟩))
    try simp only [Act.put, List.setIfInBounds_toArray, List.set_cons_zero, List.set_cons_succ]
    refine wpAnyHL_done (by kernel_rfl) ?_
    try simp only [List.drop_succ_cons, List.drop_zero]
    go_wp2_with (refine wpList_eql_at (by kernel_rfl) 42 42 (.tmp 12) (.tmp 13) rfl _ _ rfl rfl _ HEQ.out (by kernel_rfl) ?_)
    go_ret
    exact ⟨rfl, HK.out.trans hHeld.out.1⟩
  · rw [cbD_not c1]
    have c2 : ¬ ((d.ins.length : Int) = 1) := by omega
    go_enter Try.func15, Try.ntmps15
    go_upto_region 1 with (fail)
    refine wp_rows1 (fun W0 hk hr1 hs1 => ?_)
    simp only at hr1
    obtain ⟨b0, b1, b2, b3⟩ := hr1.cell4
    have HK := Lib.hid hk
    clear hk hr1 hs1
    generalize w.heap.size = p at *
    refine wp_region_quiet_tail 13 (by kernel_rfl) (by kernel_rfl) ?_
    simp only [List.take_succ_cons, List.take_zero, List.drop_succ_cons, List.drop_zero]
    repeat (first | go_big_quiet_skip | go_big_quiet_step (fail) | quiet_step (fail))
    refine wpQuiet_nil ?_
    intro _ hw'
    obtain ⟨nq, hw''⟩ := hw'
    subst hw''
    go_wp2
    go_ret
    exact ⟨by first | rfl | exact ret_bool (by simp), HK.out.trans (Qt.drewN _ _).keeps⟩
end Go.Proofs.Ytcodpdpeklammaa
