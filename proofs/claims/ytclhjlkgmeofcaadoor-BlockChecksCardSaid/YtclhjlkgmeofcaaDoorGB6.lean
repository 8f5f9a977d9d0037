/- A place of an output as a map's key, and two of them compared; both Coinbase. | Both Coinbase. -/
import Derived.Test.YtclhjlkgmeofcaaDoorGB4
import Derived.DeepKeys4
import Derived.DeepKeys
import Derived.Maps.OwnSet
import Derived.Laws.StructEq
import Derived.BigQuiet
namespace Go.Proofs.YtclhjlkgmeofcaaDoor
set_option linter.unusedVariables false
set_option linter.unusedSimpArgs false
open Go Go.RowKit

def ptCells (h : List Int) (ix : Int) : List Value := h.map (Value.int .u8) ++ [.int .u32 ix]
theorem pointCells_pt (d : InD) : pointCells d = ptCells d.hash d.index := rfl
def ptLits (h : List Int) (ix : Int) : List Lit := h.map (Lit.int .u8) ++ [.int .u32 ix]
theorem mapM_all {α β : Type} (f : α → Option β) (g : α → β) : ∀ (L : List α), (∀ i ∈ L, f i = some (g i)) → L.mapM f = some (L.map g)
  | [], _ => rfl
  | a :: L, h => by
    rw [List.mapM_cons, h a (by simp), mapM_all f g L (fun i hi => h i (by simp [hi]))]
    rfl
theorem flat_single {α β : Type} (f : α → β) : ∀ (L : List α), (L.map (fun i => [f i])).flatten = L.map f
  | [] => rfl
  | a :: L => by simp [flat_single f L]
theorem map_range_getD (h : List Int) : (List.range h.length).map (fun i => Lit.int .u8 (h.getD i 0)) = h.map (Lit.int .u8) := by
  apply List.ext_getElem
  · simp
  · intro i h1 h2
    have h3 : i < h.length := by simpa using h2
    simp [List.getD, h3]
theorem wf_u8 {x : Int} (h : Byte x) : (Lit.int .u8 x).wf = true := by
  obtain ⟨h0, h1⟩ := h
  unfold Lit.wf
  rw [Bool.and_eq_true, decide_eq_true_eq, decide_eq_true_eq]
  exact ⟨show (0 : Int) ≤ x from h0, show x ≤ (255 : Int) by omega⟩
theorem wf_u32 {x : Int} (h : U32 x) : (Lit.int .u32 x).wf = true := by
  obtain ⟨h0, h1⟩ := h
  unfold Lit.wf
  rw [Bool.and_eq_true, decide_eq_true_eq, decide_eq_true_eq]
  exact ⟨show (0 : Int) ≤ x from h0, show x ≤ (4294967295 : Int) by omega⟩
theorem lits_int (D : Nat) (t : TypeId) (k : IntKind) (x : Int) (hu : Tryd.prog.underlying t = some (.int k)) (hw : (Lit.int k x).wf = true) : Tryd.prog.keyLits (D + 1) t [.int k x] = some [.int k x] := by
  unfold Program.keyLits
  rw [hu]
  simp only [hw, and_self, if_true]
theorem lits_hash (D : Nat) (h : List Int) (hl : h.length = 32) (hb : Bytes h) : Tryd.prog.keyLits (D + 2) 24 (h.map (Value.int .u8)) = some (h.map (Lit.int .u8)) := by
  have e1 : Tryd.prog.cellsOf 24 = 32 := by kernel_rfl
  have e2 : Tryd.prog.cellsOf 5 = 1 := by kernel_rfl
  have e4 : (List.range 32).mapM (fun i => Tryd.prog.keyLits (D + 1) 5 (((h.map (Value.int .u8)).drop (i * 1)).take 1)) = some ((List.range 32).map (fun i => [Lit.int .u8 (h.getD i 0)])) := by
    refine mapM_all _ _ _ (fun i hi => ?_)
    have hi' : i < h.length := by rw [hl]; exact List.mem_range.1 hi
    have e3 : ((h.map (Value.int .u8)).drop (i * 1)).take 1 = [.int .u8 (h.getD i 0)] := by
      rw [Nat.mul_one, List.drop_eq_getElem_cons (by simpa using hi')]
      simp [List.getD, hi']
    rw [e3]
    exact lits_int D _ _ _ Tryd.underlying5 (wf_u8 (hb.getD i))
  unfold Program.keyLits
  rw [Tryd.underlying24]
  simp only [e1, e2]
  rw [if_pos (by rw [List.length_map, hl]), e4, Option.map_some, flat_single, ← hl, map_range_getD]
theorem lits_point (D : Nat) (h : List Int) (ix : Int) (hl : h.length = 32) (hb : Bytes h) (hx : U32 ix) : Tryd.prog.keyLits (D + 3) 124 (ptCells h ix) = some (ptLits h ix) := by
  have e1 : Tryd.prog.cellsOf 124 = 33 := by kernel_rfl
  have e2 : Tryd.prog.cellsOf 24 = 32 := by kernel_rfl
  have e3 : Tryd.prog.cellsOf 25 = 1 := by kernel_rfl
  have d1 : ((ptCells h ix).drop 0).take 32 = h.map (Value.int .u8) := by
    unfold ptCells
    rw [List.drop_zero, List.take_append_of_le_length (by simp [hl]), List.take_of_length_le (by simp [hl])]
  have d2 : ((ptCells h ix).drop 32).take 1 = [.int .u32 ix] := by
    unfold ptCells
    rw [List.drop_append, List.drop_eq_nil_of_le (by simp [hl])]
    simp [hl]
  unfold Program.keyLits
  rw [Tryd.underlying124]
  simp only [e1]
  rw [if_pos ⟨by unfold ptCells; simp [hl], by kernel_rfl⟩]
  simp only [List.mapM_cons, List.mapM_nil, e2, e3, d1, d2, lits_hash (D) h hl hb, lits_int (D + 1) _ _ _ Tryd.underlying25 (wf_u32 hx)]
  simp [ptLits]
theorem ptLits_inj {h h' : List Int} {x x' : Int} (e : ptLits h x = ptLits h' x') (hl : h.length = h'.length) : h = h' ∧ x = x' := by
  unfold ptLits at e
  obtain ⟨e1, e2⟩ := List.append_inj e (by simp [hl])
  refine ⟨?_, by simpa using e2⟩
  have := congrArg (List.map (fun l => match l with | Lit.int _ n => n | _ => 0)) e1
  simpa [List.map_map, Function.comp_def] using this
theorem pt_formed (h : List Int) (ix : Int) (hl : h.length = 32) : (Value.agg (ptCells h ix).toArray).formed Tryd.prog 124 = true := by
  have e1 : Tryd.prog.cellsOf 124 = 33 := by kernel_rfl
  unfold Value.formed
  rw [Tryd.underlying124]
  simp [e1, ptCells, hl]
def keyL (h : List Int) (ix : Int) : Lit := .string (keyBytes (ptLits h ix))
theorem someTypes3 : ∃ D, Tryd.prog.types.size + 1 = D + 3 := ⟨Tryd.prog.types.size - 2, by have : 2 ≤ Tryd.prog.types.size := of_decide_eq_true (by kernel_rfl); omega⟩
theorem keyOf_point (h : List Int) (ix : Int) (hl : h.length = 32) (hb : Bytes h) (hx : U32 ix) : keyOf Tryd.prog 124 (.agg (ptCells h ix).toArray) = some (keyL h ix) := by
  have hk : Tryd.prog.keyType 124 = true := by kernel_rfl
  obtain ⟨D, hD⟩ := someTypes3
  have h1 := lits_point D h ix hl hb hx
  unfold keyOf
  rw [Tryd.underlying124]
  simp only [hk, pt_formed h ix hl, Bool.and_self, if_true, hD, Value.cells, h1, Option.map_some]
  rfl
theorem keyL_inj {h h' : List Int} {x x' : Int} (hl : h.length = 32) (hb : Bytes h) (hx : U32 x) (hl' : h'.length = 32) (hb' : Bytes h') (hx' : U32 x') (e : keyL h x = keyL h' x') : h = h' ∧ x = x' := by
  have e1 : keyBytes (ptLits h x) = keyBytes (ptLits h' x') := by
    unfold keyL at e
    exact Lit.string.inj e
  exact ptLits_inj (keyLits_inj (lits_point 0 h x hl hb hx) (lits_point 0 h' x' hl' hb' hx') e1) (by rw [hl, hl'])
theorem pt_equal (W : World) (h h' : List Int) (x x' : Int) (hl : h.length = 32) (hb : Bytes h) (hx : U32 x) (hl' : h'.length = 32) (hb' : Bytes h') (hx' : U32 x') :
    (Op.equalIn 10000 124 (.agg (ptCells h x).toArray) (.agg (ptCells h' x').toArray)).run Tryd.prog W = .ok (decide (h = h' ∧ x = x')) W := by
  have hd := run_equalIn_deep (P := Tryd.prog) 9996 4 124 (by kernel_rfl)
  obtain ⟨r, hr, hiff⟩ := hd W 3 3 (.agg (ptCells h x).toArray) (.agg (ptCells h' x').toArray) _ _ (pt_formed h x hl) (pt_formed h' x' hl') (lits_point 0 h x hl hb hx) (lits_point 0 h' x' hl' hb' hx')
  suffices key : r = decide (h = h' ∧ x = x') by rw [hr, key]
  clear hr hd
  by_cases he : h = h' ∧ x = x'
  · rw [decide_eq_true he]; exact hiff.2 (by rw [he.1, he.2])
  · rw [decide_eq_false he]
    cases r
    · rfl
    · exact absurd (ptLits_inj (hiff.1 rfl) (by rw [hl, hl'])) he
theorem hash_equal (W : World) (h h' : List Int) (hl : h.length = 32) (hb : Bytes h) (hl' : h'.length = 32) (hb' : Bytes h') :
    (Op.equalIn 10000 24 (.agg (h.map (Value.int .u8)).toArray) (.agg (h'.map (Value.int .u8)).toArray)).run Tryd.prog W = .ok (decide (h = h')) W := by
  have e1 : Tryd.prog.cellsOf 24 = 32 := by kernel_rfl
  have fm : ∀ (l : List Int), l.length = 32 → (Value.agg (l.map (Value.int .u8)).toArray).formed Tryd.prog 24 = true := fun l hl => by
    unfold Value.formed
    rw [Tryd.underlying24]
    simp [e1, hl]
  have hd := run_equalIn_deep (P := Tryd.prog) 9996 4 24 (by kernel_rfl)
  obtain ⟨r, hr, hiff⟩ := hd W 2 2 _ _ _ _ (fm h hl) (fm h' hl') (lits_hash 0 h hl hb) (lits_hash 0 h' hl' hb')
  suffices key : r = decide (h = h') by rw [hr, key]
  clear hr hd
  have inj : h.map (Lit.int .u8) = h'.map (Lit.int .u8) → h = h' := fun e => by
    have := congrArg (List.map (fun l => match l with | Lit.int _ n => n | _ => 0)) e
    simpa [List.map_map, Function.comp_def] using this
  by_cases he : h = h'
  · rw [decide_eq_true he]; exact hiff.2 (by rw [he])
  · rw [decide_eq_false he]
    cases r
    · rfl
    · exact absurd (inj (hiff.1 rfl)) he
end Go.Proofs.YtclhjlkgmeofcaaDoor
namespace Go.Proofs.YtclhjlkgmeofcaaDoor
set_option linter.unusedVariables false
set_option linter.unusedSimpArgs false
open Go Go.RowKit

def zero32 : List Int := List.replicate 32 0
theorem zero32_len : zero32.length = 32 := rfl
theorem zero32_bytes : Bytes zero32 := by unfold Bytes Byte zero32; decide
def isEmptyD (d : InD) : Bool := decide (d.hash = zero32 ∧ d.index = 4294967295)
def cbD (d : TxD) : Bool := match d.ins with
  | [x] => isEmptyD x
  | _ => false
theorem wpList_eql_at {P : Program} {ops : Array Oper} {rest : List Oper} {o : Oper} {a : Act} {w : World} {Q : Exit → Act → World → Prop} (hw : Region.wanted o (yielded ops a.tmps) = true) (t t' : TypeId) (x y : Operand) (ho : o.op = .binOp .eql t x y t') (A B : Array Value) (hx : a.eval x = .agg A) (hy : a.eval y = .agg B) (r : Bool)
    (hE : ∀ W, (Op.equalIn 10000 t (.agg A) (.agg B)).run P W = .ok r W) (hm : P.eqGuardType P.depth t = false) (h : wpList P ops Q rest (a.put o.dst (.bool r)) w) : wpList P ops Q (o :: rest) a w :=
  BigFrame.wpList_want hw fun _ hK => by
    unfold Oper.wp execOp
    simp only [ho, hx, hy]
    simp only [Sem.run_bind, Sem.run_pure, run_eqGuard_agg _ _ _ _ _ _ _ hm, run_eql_struct, hE, Result.andThen_ok]
    exact hK _ _ h
theorem wpList_load_on {P : Program} {ops : Array Oper} {rest : List Oper} {o : Oper} {a : Act} {w : World} {Q : Exit → Act → World → Prop} (hw : Region.wanted o (yielded ops a.tmps) = true) (ty : TypeId) (x : Operand) (ho : o.op = .load ty x)
    (g off : Nat) (hx : a.eval x = .pointer (some ⟨g, off, none⟩)) (cs : List Value) (d : TypeDesc) (hg : Row w g off cs)
    (hu : P.underlying ty = some d) (hd : (match d with | .struct _ | .array _ _ => true | _ => false) = true) (hi : (P.info? ty).map (·.size) = some cs.length)
    (h : wpList P ops Q rest (a.put o.dst (.agg cs.toArray)) w) : wpList P ops Q (o :: rest) a w :=
  BigFrame.wpList_want hw fun _ hK => by
    unfold Oper.wp execOp
    simp only [ho, hx, Instr.loadAt, Instr.sureAddr, Sem.run_bind, Sem.run_pure, Result.andThen_ok, run_loadVar_at w g off ty cs d hg hu hd hi]
    exact hK _ _ h
theorem sz_pt (h : List Int) (x : Int) (hl : h.length = 32) : (Tryd.prog.info? 124).map (·.size) = some (ptCells h x).length := by rw [show (ptCells h x).length = 33 by simp [ptCells, hl]]; kernel_rfl
def emptyCells : List Value := [.int .u8 0, .int .u8 0, .int .u8 0, .int .u8 0, .int .u8 0, .int .u8 0, .int .u8 0, .int .u8 0, .int .u8 0, .int .u8 0, .int .u8 0, .int .u8 0, .int .u8 0, .int .u8 0, .int .u8 0, .int .u8 0, .int .u8 0, .int .u8 0, .int .u8 0, .int .u8 0, .int .u8 0, .int .u8 0, .int .u8 0, .int .u8 0, .int .u8 0, .int .u8 0, .int .u8 0, .int .u8 0, .int .u8 0, .int .u8 0, .int .u8 0, .int .u8 0, .int .u32 4294967295]
theorem emptyCells_pt : emptyCells = ptCells zero32 4294967295 := by simp [emptyCells, ptCells, zero32, List.replicate]
set_option maxRecDepth 100000 in
set_option maxHeartbeats 1000000 in
theorem empty_any (w : World) : Calls Tryd.prog 86 #[] w fun e w' => e = .returned (.agg (ptCells zero32 4294967295).toArray) ∧ Keeps w w' := by
  have HB := Lib.hid (show Tryd.prog.built 124 [(1, .int .u32 4294967295)] = some emptyCells.toArray by kernel_rfl)
  have hl : emptyCells.length = 33 := rfl
  have ho : ∀ v ∈ emptyCells, v.oneCell' = true := by rw [emptyCells_pt]; intro v hv; simp only [ptCells, List.mem_append, List.mem_map, List.mem_singleton] at hv; rcases hv with ⟨_, _, rfl⟩ | rfl <;> rfl
  have hsz : (Tryd.prog.info? 124).map (·.size) = some emptyCells.length := by kernel_rfl
  rw [← emptyCells_pt]
  have HL := Lib.hid hl; have HO := Lib.hid ho; have HS := Lib.hid hsz
  clear hl ho hsz
  generalize emptyCells = EC at *
  go_enter Tryd.func86, Tryd.ntmps86
  go_wp2_with (first | (refine wpList_build_at rfl 124 _ rfl [(1, .int .u32 4294967295)] (by simp only [List.map_toArray, List.map_cons, List.map_nil]; rfl) _ HB.out ?_) | (refine wpList_store_row rfl 124 (.tmp 0) (.tmp 1) rfl w.heap.size 0 rfl (List.replicate 32 (.int .u8 0) ++ [.int .u32 0]) EC rfl (Row.new _ _ _ rfl) (by rw [HL.out]; rfl) HS.out HO.out ?_; intro W9 hr9 hc9; have HR9 := Lib.hid hr9; have HC9 := Lib.hid hc9; clear hr9 hc9))
  refine bodyPost_ret (results_cell_at rfl _ _ w.heap.size 0 EC _ (by simp only [Act.put, List.setIfInBounds_toArray, List.set_cons_zero, List.set_cons_succ]; rfl) HR9.out Tryd.underlying124 rfl HS.out) rfl ?_
  exact ⟨rfl, keeps_chg (keeps_alloc (Keeps.refl _) _) HC9.out (Nat.le_refl _)⟩
set_option maxRecDepth 100000 in
set_option maxHeartbeats 1000000 in
theorem rempty_any (h : List Int) (x : Int) (hl : h.length = 32) (hb : Bytes h) (hx : U32 x) (w : World) : Calls Tryd.prog 90 #[.agg (ptCells h x).toArray] w fun e w' => e = .returned (.bool (decide (h = zero32 ∧ x = 4294967295))) ∧ Keeps w w' := by
  have hE := fun W => hash_equal W h zero32 hl hb zero32_len zero32_bytes
  have hsz : (ptCells h x).length = 33 := by simp [ptCells, hl]
  have hrow : ∀ W b, Row W b 0 (ptCells h x) → Row W b 0 (h.map (Value.int .u8)) ∧ W.cell? ⟨b, 32, none⟩ = some (.int .u32 x) := fun W b hr => by
    refine ⟨?_, ?_⟩
    · have := hr.take 32
      unfold ptCells at this
      rwa [List.take_append_of_le_length (by simp [hl]), List.take_of_length_le (by simp [hl])] at this
    · have := (hr 32 (.int .u32 x) (by unfold ptCells; rw [List.getElem?_append_right (by simp [hl])]; simp [hl])).1
      simpa using this
  have HRW := Lib.hid hrow; have HSZ := Lib.hid (sz_h32 h hl)
  clear hrow hsz
  have hz : (Value.agg ((zero32.map (Value.int .u8)).toArray)) = .agg #[.int .u8 0, .int .u8 0, .int .u8 0, .int .u8 0, .int .u8 0, .int .u8 0, .int .u8 0, .int .u8 0, .int .u8 0, .int .u8 0, .int .u8 0, .int .u8 0, .int .u8 0, .int .u8 0, .int .u8 0, .int .u8 0, .int .u8 0, .int .u8 0, .int .u8 0, .int .u8 0, .int .u8 0, .int .u8 0, .int .u8 0, .int .u8 0, .int .u8 0, .int .u8 0, .int .u8 0, .int .u8 0, .int .u8 0, .int .u8 0, .int .u8 0, .int .u8 0] := rfl
  rw [hz] at hE
  clear hz
  have HE := Lib.hid hE
  clear hE
  obtain ⟨hx0, hx1⟩ := hx
  by_cases c1 : h = zero32
  all_goals
    first | (have e1 : decide (h = zero32) = true := decide_eq_true c1) | (have e1 : decide (h = zero32) = false := decide_eq_false c1)
    rw [e1] at HE
    by_cases c2 : x = 4294967295
    all_goals
      first
        | (have e2 : decide (h = zero32 ∧ x = 4294967295) = true := decide_eq_true ⟨c1, c2⟩)
        | (have e2 : decide (h = zero32 ∧ x = 4294967295) = false := decide_eq_false (fun hh => by first | exact c1 hh.1 | exact c2 hh.2))
      rw [e2]
      clear e1 e2
      have HC1 := Lib.hid c1
      clear c1
      generalize ptCells h x = CS at *
      go_enter Tryd.func90, Tryd.ntmps90
      go_upto_region 1 with (fail)
      refine wp_rows1 (fun W0 hk hr1 hs1 => ?_)
      obtain ⟨hr32, hx32⟩ := HRW.out _ _ hr1
      have HK := Lib.hid hk; have HR := Lib.hid hr32
      clear hk hr1 hs1 hr32
      go_wp2_with (first | (refine wpList_load_on (by kernel_rfl) 24 (.tmp 3) rfl _ 0 rfl _ _ HR.out Tryd.underlying24 rfl HSZ.out ?_) | (refine wpList_eql_at (by kernel_rfl) 24 24 (.tmp 4) (.tmp 5) rfl _ _ rfl rfl _ HE.out (by kernel_rfl) ?_))
      go_ret
      exact ⟨by first | rfl | exact ret_bool (by simp [c2]), HK.out⟩
/-- the first input's place, its cells -/
theorem first_pt {w : World} {b o : Nat} {d : InD} {sv wv : Value} (h : Row w b o (inCells d sv wv)) (hl : d.hash.length = 32) : Row w b o (ptCells d.hash d.index) := by
  have := h.take 33
  rw [inCells_point, List.take_append_of_le_length (by rw [pointCells_length _ hl]; exact Nat.le_refl _), List.take_of_length_le (by rw [pointCells_length _ hl]; exact Nat.le_refl _)] at this
  exact this
theorem cbD_one {d : TxD} {x : InD} (h : d.ins[0]? = some x) (hl : d.ins.length = 1) : cbD d = isEmptyD x := by
  unfold cbD
  match hd : d.ins, hl with
  | [y], _ => rw [hd] at h; cases h; rfl
theorem cbD_not {d : TxD} (hl : d.ins.length ≠ 1) : cbD d = false := by
  unfold cbD
  match hd : d.ins with
  | [] => rfl
  | [y] => rw [hd] at hl; exact absurd rfl hl
  | _ :: _ :: _ => rfl
set_option maxRecDepth 100000 in
set_option maxHeartbeats 1000000 in
theorem rcoinbase_any (S T R : Nat → Prop) (d : TxD) (iv ov : Value) (w : World) (h : RTx S T R w iv ov d) :
    Calls Tryd.prog 45 #[.agg #[.int .i32 d.ver, iv, ov, .int .u32 d.lock]] w fun e w' => e = .returned (.bool (cbD d)) ∧ Keeps w w' := by
  have HI := Lib.hid h.ins
  obtain ⟨ia, ic, rfl, hic, hicm, -⟩ := h.ins.any
  obtain ⟨oa, oc, rfl, -⟩ := h.outs.any
  have hism : d.ins.length * 96 ≤ 140737488355328 := by obtain ⟨_, _, h⟩ := h.ins; exact h.small
  clear h
  by_cases c1 : d.ins.length = 1
  · obtain ⟨g, off, sv, wv, di, rfl, hg, hdi, hrow, hrin⟩ := HI.out.at 0 (by omega)
    rw [cbD_one hdi c1]
    have hpt := first_pt hrow hrin.ok.hashLen
    rw [Nat.zero_mul, Nat.add_zero] at hpt
    have HPT := Lib.hid hpt; have HOK := Lib.hid hrin.ok
    have HEM := Lib.hid (fun W => rempty_any di.hash di.index hrin.ok.hashLen hrin.ok.hash hrin.ok.index W)
    clear hpt hrow hrin
    unfold isEmptyD
    generalize decide (di.hash = zero32 ∧ di.index = 4294967295) = EB at *
    rw [c1] at *
    go_enter Tryd.func45, Tryd.ntmps45
    go_upto_region 1 with (fail)
    refine wp_rows1 (fun W0 hk hr1 hs1 => ?_)
    simp only at hr1
    obtain ⟨b0, b1, b2, b3⟩ := hr1.cell4
    have HK := Lib.hid hk
    clear hk hr1 hs1
    go_wp2_with (first | (refine wpList_load_on (by kernel_rfl) 124 (.tmp 11) rfl g off rfl _ _ (HPT.out.keeps HK.out) Tryd.underlying124 rfl (sz_pt _ _ HOK.out.hashLen) ?_) | (go_at_call 90; refine (HEM.out _).mono ?_; rintro e W2 ⟨rfl, hk2⟩; have HK2 := Lib.hid hk2; clear hk2))
    go_ret
    exact ⟨rfl, HK.out.trans HK2.out⟩
  · rw [cbD_not c1]
    have c2 : ¬ ((d.ins.length : Int) = 1) := by omega
    go_enter Tryd.func45, Tryd.ntmps45
    go_upto_region 1 with (fail)
    refine wp_rows1 (fun W0 hk hr1 hs1 => ?_)
    simp only at hr1
    obtain ⟨b0, b1, b2, b3⟩ := hr1.cell4
    have HK := Lib.hid hk
    clear hk hr1 hs1
    go_wp2
    go_ret
    exact ⟨by first | rfl | exact ret_bool (by simp), HK.out⟩
set_option maxRecDepth 100000 in
set_option maxHeartbeats 2000000 in
theorem coinbase_any (S T R : Nat → Prop) (d : TxD) (iv ov : Value) (w : World) (h : RTx S T R w iv ov d) :
    Calls Tryd.prog 41 #[.agg #[.int .i32 d.ver, iv, ov, .int .u32 d.lock]] w fun e w' => e = .returned (.bool (cbD d)) ∧ Keeps w w' := by
  have HI := Lib.hid h.ins
  obtain ⟨ia, ic, rfl, hic, hicm, -⟩ := h.ins.any
  obtain ⟨oa, oc, rfl, -⟩ := h.outs.any
  have hism : d.ins.length * 96 ≤ 140737488355328 := by obtain ⟨_, _, h⟩ := h.ins; exact h.small
  clear h
  by_cases c1 : d.ins.length = 1
  · obtain ⟨g, off, sv, wv, di, rfl, hg, hdi, hrow, hrin⟩ := HI.out.at 0 (by omega)
    rw [cbD_one hdi c1]
    have hpt := first_pt hrow hrin.ok.hashLen
    rw [Nat.zero_mul, Nat.add_zero] at hpt
    have HPT := Lib.hid hpt; have HOK := Lib.hid hrin.ok
    have HEQ := Lib.hid (fun W => pt_equal W di.hash zero32 di.index 4294967295 hrin.ok.hashLen hrin.ok.hash hrin.ok.index zero32_len zero32_bytes ⟨by omega, by omega⟩)
    clear hpt hrow hrin
    unfold isEmptyD
    generalize decide (di.hash = zero32 ∧ di.index = 4294967295) = EB at *
    have HEM := Lib.hid empty_any
    generalize ptCells zero32 4294967295 = EC at *
    rw [c1] at *
    go_enter Tryd.func41, Tryd.ntmps41
    go_upto_region 1 with (fail)
    refine wp_rows1 (fun W0 hk hr1 hs1 => ?_)
    simp only at hr1
    have HK := Lib.hid hk; have HR := Lib.hid hr1
    clear hk hr1 hs1
    have hfa : ∀ W, Keeps W0 W → W.cell? ⟨w.heap.size, 1, none⟩ = some (.slice (some ⟨g, off, none⟩) 1 ic) := fun W hk => by
      obtain ⟨_, h1, _, _⟩ := (HR.out.keeps hk).cell4
      exact h1
    have HFA := Lib.hid hfa
    clear hfa
    generalize w.heap.size = p at *
    refine wp_region_head (S := fun W => Hid ((fun W => Keeps W0 W ∧ W.cell? ⟨p, 1, none⟩ = some (.slice (some ⟨g, off, none⟩) 1 ic)) W)) 11 (by kernel_rfl) (by kernel_rfl) ?_ (fun hHeld => ?_)
    focus exact Lib.hid ⟨keeps_drew (Keeps.refl _), HFA.out _ (keeps_drew (Keeps.refl _))⟩
    refine wpAnyHL_take (i := 0) (oi := ?_) (v := ?_) ?_ ?_ ?_ ?_ ?_ ?_ ?_ ?_ ?_ (Or.inl ⟨?_, ?_⟩) ?_ ?_
    rotate_left 2
    focus (simp only [List.getElem?_toArray, List.getElem?_cons_succ, List.getElem?_cons_zero]; exact rfl)
    focus kernel_rfl
    focus kernel_rfl
    focus kernel_rfl
    focus kernel_rfl
    focus kernel_rfl
    focus kernel_rfl
    focus kernel_rfl
    focus (exact fun _ _ _ h => h)
    focus rfl
    focus ((intro wSw hSw; (have hSw := hSw.out); (try dsimp only at hSw); go_simp) <;> with_reducible rfl)
    focus assumption
    try simp only [Act.put, List.setIfInBounds_toArray, List.set_cons_zero, List.set_cons_succ]
    refine wpAnyHL_take (i := 1) (oi := ?_) (v := ?_) ?_ ?_ ?_ ?_ ?_ ?_ ?_ ?_ ?_ (Or.inl ⟨?_, ?_⟩) ?_ ?_
    rotate_left 2
    focus (simp only [List.getElem?_toArray, List.getElem?_cons_succ, List.getElem?_cons_zero]; exact rfl)
    focus kernel_rfl
    focus kernel_rfl
    focus kernel_rfl
    focus kernel_rfl
    focus kernel_rfl
    focus kernel_rfl
    focus kernel_rfl
    focus (exact fun _ _ _ h => h)
    focus rfl
    focus ((intro wSw hSw; (have hSw := hSw.out); (try dsimp only at hSw); go_simp) <;> with_reducible rfl)
    focus assumption
    try simp only [Act.put, List.setIfInBounds_toArray, List.set_cons_zero, List.set_cons_succ]
    refine wpAnyHL_take (i := 2) (oi := ?_) (v := ?_) ?_ ?_ ?_ ?_ ?_ ?_ ?_ ?_ ?_ (Or.inl ⟨?_, ?_⟩) ?_ ?_
    rotate_left 2
    focus (simp only [List.getElem?_toArray, List.getElem?_cons_succ, List.getElem?_cons_zero]; exact rfl)
    focus kernel_rfl
    focus kernel_rfl
    focus kernel_rfl
    focus kernel_rfl
    focus kernel_rfl
    focus kernel_rfl
    focus kernel_rfl
    focus (exact fun _ _ _ h => h)
    focus rfl
    focus ((intro wSw hSw; (have hSw := hSw.out); (try dsimp only at hSw); go_simp) <;> with_reducible rfl)
    focus assumption
    try simp only [Act.put, List.setIfInBounds_toArray, List.set_cons_zero, List.set_cons_succ]
    refine wpAnyHL_take (i := 3) (oi := ?_) (v := ?_) ?_ ?_ ?_ ?_ ?_ ?_ ?_ ?_ ?_ (Or.inl ⟨?_, ?_⟩) ?_ ?_
    rotate_left 2
    focus (simp only [List.getElem?_toArray, List.getElem?_cons_succ, List.getElem?_cons_zero]; exact rfl)
    focus kernel_rfl
    focus kernel_rfl
    focus kernel_rfl
    focus kernel_rfl
    focus kernel_rfl
    focus kernel_rfl
    focus kernel_rfl
    focus (exact fun _ _ _ h => h)
    focus rfl
    focus ((intro wSw hSw; (have hSw := hSw.out); (try dsimp only at hSw); go_simp) <;> with_reducible rfl)
    focus assumption
    try simp only [Act.put, List.setIfInBounds_toArray, List.set_cons_zero, List.set_cons_succ]
    refine wpAnyHL_take (i := 4) (oi := ?_) (v := ?_) ?_ ?_ ?_ ?_ ?_ ?_ ?_ ?_ ?_ (Or.inl ⟨?_, ?_⟩) ?_ ?_
    rotate_left 2
    focus (simp only [List.getElem?_toArray, List.getElem?_cons_succ, List.getElem?_cons_zero]; exact rfl)
    focus kernel_rfl
    focus kernel_rfl
    focus kernel_rfl
    focus kernel_rfl
    focus kernel_rfl
    focus kernel_rfl
    focus kernel_rfl
    focus (exact fun _ _ _ h => h)
    focus rfl
    focus ((intro wSw hSw; (have hSw := hSw.out); (try dsimp only at hSw); go_simp) <;> with_reducible rfl)
    focus assumption
    try simp only [Act.put, List.setIfInBounds_toArray, List.set_cons_zero, List.set_cons_succ]
    refine wpAnyHL_take (i := 5) (oi := ?_) (v := ?_) ?_ ?_ ?_ ?_ ?_ ?_ ?_ ?_ ?_ (Or.inl ⟨?_, ?_⟩) ?_ ?_
    rotate_left 2
    focus (simp only [List.getElem?_toArray, List.getElem?_cons_succ, List.getElem?_cons_zero]; exact rfl)
    focus kernel_rfl
    focus kernel_rfl
    focus kernel_rfl
    focus kernel_rfl
    focus kernel_rfl
    focus kernel_rfl
    focus kernel_rfl
    focus (exact fun _ _ _ h => h)
    focus rfl
    focus ((intro wSw hSw; (have hSw := hSw.out); (try dsimp only at hSw); go_simp) <;> with_reducible rfl)
    focus assumption
    try simp only [Act.put, List.setIfInBounds_toArray, List.set_cons_zero, List.set_cons_succ]
    refine wpAnyHL_take (i := 6) (oi := ?_) (v := ?_) ?_ ?_ ?_ ?_ ?_ ?_ ?_ ?_ ?_ (Or.inl ⟨?_, ?_⟩) ?_ ?_
    rotate_left 2
    focus (simp only [List.getElem?_toArray, List.getElem?_cons_succ, List.getElem?_cons_zero]; exact rfl)
    focus kernel_rfl
    focus kernel_rfl
    focus kernel_rfl
    focus kernel_rfl
    focus kernel_rfl
    focus kernel_rfl
    focus kernel_rfl
    focus (exact fun _ _ _ h => h)
    focus rfl
    focus ((intro wSw hSw; (have hSw := hSw.out); (try dsimp only at hSw); go_simp) <;> with_reducible rfl)
    focus assumption
    try simp only [Act.put, List.setIfInBounds_toArray, List.set_cons_zero, List.set_cons_succ]
    refine wpAnyHL_take (i := 7) (oi := ?_) (v := ?_) ?_ ?_ ?_ ?_ ?_ ?_ ?_ ?_ ?_ (Or.inl ⟨?_, ?_⟩) ?_ ?_
    rotate_left 2
    focus (simp only [List.getElem?_toArray, List.getElem?_cons_succ, List.getElem?_cons_zero]; exact rfl)
    focus kernel_rfl
    focus kernel_rfl
    focus kernel_rfl
    focus kernel_rfl
    focus kernel_rfl
    focus kernel_rfl
    focus kernel_rfl
    focus (exact fun _ _ _ h => h)
    focus rfl
    focus ((intro wSw hSw; (have hSw := hSw.out); (try dsimp only at hSw); go_simp) <;> with_reducible rfl)
    focus assumption
    try simp only [Act.put, List.setIfInBounds_toArray, List.set_cons_zero, List.set_cons_succ]
    refine wpAnyHL_take (i := 8) (oi := ?_) (v := ?_) ?_ ?_ ?_ ?_ ?_ ?_ ?_ ?_ ?_ (Or.inl ⟨?_, ?_⟩) ?_ ?_
    rotate_left 2
    focus (simp only [List.getElem?_toArray, List.getElem?_cons_succ, List.getElem?_cons_zero]; exact rfl)
    focus kernel_rfl
    focus kernel_rfl
    focus kernel_rfl
    focus kernel_rfl
    focus kernel_rfl
    focus kernel_rfl
    focus kernel_rfl
    focus (exact fun _ _ _ h => h)
    focus rfl
    focus ((intro wSw hSw; (have hSw := hSw.out); (try dsimp only at hSw); go_simp) <;> with_reducible rfl)
    focus assumption
    try simp only [Act.put, List.setIfInBounds_toArray, List.set_cons_zero, List.set_cons_succ]
    refine wpAnyHL_take (i := 9) (oi := ?_) (v := ?_) ?_ ?_ ?_ ?_ ?_ ?_ ?_ ?_ ?_ (Or.inl ⟨?_, ?_⟩) ?_ ?_
    rotate_left 2
    focus (simp only [List.getElem?_toArray, List.getElem?_cons_succ, List.getElem?_cons_zero]; exact rfl)
    focus kernel_rfl
    focus kernel_rfl
    focus kernel_rfl
    focus kernel_rfl
    focus kernel_rfl
    focus kernel_rfl
    focus kernel_rfl
    focus (exact fun _ _ _ h => h)
    focus rfl
    focus (intro wSw hSw; (have hSw := hSw.out); (refine run_load_row 124 (.tmp 11) ?_ g off ?_ (ptCells di.hash di.index) _ (HPT.out.keeps (HK.out.trans hSw.1)) Tryd.underlying124 rfl (sz_pt _ _ HOK.out.hashLen)) <;> rfl)
    focus assumption
    try simp only [Act.put, List.setIfInBounds_toArray, List.set_cons_zero, List.set_cons_succ]
    refine wpAnyHL_one (i := 10) (o := ?_) (by kernel_rfl) (by kernel_rfl) ?_ ?_
    rotate_left 1
    focus (simp only [List.getElem?_toArray, List.getElem?_cons_succ, List.getElem?_cons_zero]; exact rfl)
    go_wp2_with (go_at_call 86; refine (HEM.out _).mono ?_; rintro e W6 ⟨rfl, hk6⟩; have HK6 := Lib.hid hk6; clear hk6)
    try dsimp only [StepQ]
    refine ⟨?_, fun hHeld => ?_⟩
    focus (exact Lib.hid (⟨hHeld.out.1.trans HK6.out, HFA.out _ (hHeld.out.1.trans HK6.out)⟩))
    try simp only [Act.put, List.setIfInBounds_toArray, List.set_cons_zero, List.set_cons_succ]
    refine wpAnyHL_done (by kernel_rfl) ?_
    try simp only [List.drop_succ_cons, List.drop_zero]
    go_wp2_with (refine wpList_eql_at (by kernel_rfl) 124 124 (.tmp 12) (.tmp 13) rfl _ _ rfl rfl _ HEQ.out (by kernel_rfl) ?_)
    go_ret
    exact ⟨rfl, HK.out.trans hHeld.out.1⟩
  · rw [cbD_not c1]
    have c2 : ¬ ((d.ins.length : Int) = 1) := by omega
    go_enter Tryd.func41, Tryd.ntmps41
    go_upto_region 1 with (fail)
    refine wp_rows1 (fun W0 hk hr1 hs1 => ?_)
    simp only at hr1
    obtain ⟨b0, b1, b2, b3⟩ := hr1.cell4
    have HK := Lib.hid hk
    clear hk hr1 hs1
    generalize w.heap.size = p at *
    refine wp_region_quiet_tail 13 (by kernel_rfl) (by kernel_rfl) ?_
    simp only [List.take_succ_cons, List.take_zero, List.drop_succ_cons, List.drop_zero]
    repeat (first | go_big_quiet_skip | go_big_quiet_step (fail) | quiet_step (fail))
    refine wpQuiet_nil ?_
    intro _ hw'
    obtain ⟨nq, hw''⟩ := hw'
    subst hw''
    go_wp2
    go_ret
    exact ⟨by first | rfl | exact ret_bool (by simp), HK.out.trans (Qt.drewN _ _).keeps⟩
end Go.Proofs.YtclhjlkgmeofcaaDoor
