/- A place of an output as a map's key, and two of them compared; both Coinbase. -/
import Derived.Test.YtclhjlkgmeofcaaDoorGD4
import Derived.DeepKeys4
import Derived.DeepKeys
import Derived.Maps.OwnSet
import Derived.Laws.StructEq
namespace Go.Proofs.YtclhjlkgmeofcaaDoor
set_option linter.unusedVariables false
set_option linter.unusedSimpArgs false
open Go Go.RowKit

def ptCells (h : List Int) (ix : Int) : List Value := h.map (Value.int .u8) ++ [.int .u32 ix]
theorem pointCells_pt (d : InD) : pointCells d = ptCells d.hash d.index := rfl
def ptLits (h : List Int) (ix : Int) : List Lit := h.map (Lit.int .u8) ++ [.int .u32 ix]
theorem mapM_all {α β : Type} (f : α → Option β) (g : α → β) : ∀ (L : List α), (∀ i ∈ L, f i = some (g i)) → L.mapM f = some (L.map g)
  | [], _ => rfl
  | a :: L, h => by
    rw [List.mapM_cons, h a (by simp), mapM_all f g L (fun i hi => h i (by simp [hi]))]
    rfl
theorem flat_single {α β : Type} (f : α → β) : ∀ (L : List α), (L.map (fun i => [f i])).flatten = L.map f
  | [] => rfl
  | a :: L => by simp [flat_single f L]
theorem map_range_getD (h : List Int) : (List.range h.length).map (fun i => Lit.int .u8 (h.getD i 0)) = h.map (Lit.int .u8) := by
  apply List.ext_getElem
  · simp
  · intro i h1 h2
    have h3 : i < h.length := by simpa using h2
    simp [List.getD, h3]
theorem wf_u8 {x : Int} (h : Byte x) : (Lit.int .u8 x).wf = true := by
  obtain ⟨h0, h1⟩ := h
  unfold Lit.wf
  rw [Bool.and_eq_true, decide_eq_true_eq, decide_eq_true_eq]
  exact ⟨show (0 : Int) ≤ x from h0, show x ≤ (255 : Int) by omega⟩
theorem wf_u32 {x : Int} (h : U32 x) : (Lit.int .u32 x).wf = true := by
  obtain ⟨h0, h1⟩ := h
  unfold Lit.wf
  rw [Bool.and_eq_true, decide_eq_true_eq, decide_eq_true_eq]
  exact ⟨show (0 : Int) ≤ x from h0, show x ≤ (4294967295 : Int) by omega⟩
theorem lits_int (D : Nat) (t : TypeId) (k : IntKind) (x : Int) (hu : Tryd.prog.underlying t = some (.int k)) (hw : (Lit.int k x).wf = true) : Tryd.prog.keyLits (D + 1) t [.int k x] = some [.int k x] := by
  unfold Program.keyLits
  rw [hu]
  simp only [hw, and_self, if_true]
theorem lits_hash (D : Nat) (h : List Int) (hl : h.length = 32) (hb : Bytes h) : Tryd.prog.keyLits (D + 2) 24 (h.map (Value.int .u8)) = some (h.map (Lit.int .u8)) := by
  have e1 : Tryd.prog.cellsOf 24 = 32 := by kernel_rfl
  have e2 : Tryd.prog.cellsOf 5 = 1 := by kernel_rfl
  have e4 : (List.range 32).mapM (fun i => Tryd.prog.keyLits (D + 1) 5 (((h.map (Value.int .u8)).drop (i * 1)).take 1)) = some ((List.range 32).map (fun i => [Lit.int .u8 (h.getD i 0)])) := by
    refine mapM_all _ _ _ (fun i hi => ?_)
    have hi' : i < h.length := by rw [hl]; exact List.mem_range.1 hi
    have e3 : ((h.map (Value.int .u8)).drop (i * 1)).take 1 = [.int .u8 (h.getD i 0)] := by
      rw [Nat.mul_one, List.drop_eq_getElem_cons (by simpa using hi')]
      simp [List.getD, hi']
    rw [e3]
    exact lits_int D _ _ _ Tryd.underlying5 (wf_u8 (hb.getD i))
  unfold Program.keyLits
  rw [Tryd.underlying24]
  simp only [e1, e2]
  rw [if_pos (by rw [List.length_map, hl]), e4, Option.map_some, flat_single, ← hl, map_range_getD]
theorem lits_point (D : Nat) (h : List Int) (ix : Int) (hl : h.length = 32) (hb : Bytes h) (hx : U32 ix) : Tryd.prog.keyLits (D + 3) 124 (ptCells h ix) = some (ptLits h ix) := by
  have e1 : Tryd.prog.cellsOf 124 = 33 := by kernel_rfl
  have e2 : Tryd.prog.cellsOf 24 = 32 := by kernel_rfl
  have e3 : Tryd.prog.cellsOf 25 = 1 := by kernel_rfl
  have d1 : ((ptCells h ix).drop 0).take 32 = h.map (Value.int .u8) := by
    unfold ptCells
    rw [List.drop_zero, List.take_append_of_le_length (by simp [hl]), List.take_of_length_le (by simp [hl])]
  have d2 : ((ptCells h ix).drop 32).take 1 = [.int .u32 ix] := by
    unfold ptCells
    rw [List.drop_append, List.drop_eq_nil_of_le (by simp [hl])]
    simp [hl]
  unfold Program.keyLits
  rw [Tryd.underlying124]
  simp only [e1]
  rw [if_pos ⟨by unfold ptCells; simp [hl], by kernel_rfl⟩]
  simp only [List.mapM_cons, List.mapM_nil, e2, e3, d1, d2, lits_hash (D) h hl hb, lits_int (D + 1) _ _ _ Tryd.underlying25 (wf_u32 hx)]
  simp [ptLits]
theorem ptLits_inj {h h' : List Int} {x x' : Int} (e : ptLits h x = ptLits h' x') (hl : h.length = h'.length) : h = h' ∧ x = x' := by
  unfold ptLits at e
  obtain ⟨e1, e2⟩ := List.append_inj e (by simp [hl])
  refine ⟨?_, by simpa using e2⟩
  have := congrArg (List.map (fun l => match l with | Lit.int _ n => n | _ => 0)) e1
  simpa [List.map_map, Function.comp_def] using this
theorem pt_formed (h : List Int) (ix : Int) (hl : h.length = 32) : (Value.agg (ptCells h ix).toArray).formed Tryd.prog 124 = true := by
  have e1 : Tryd.prog.cellsOf 124 = 33 := by kernel_rfl
  unfold Value.formed
  rw [Tryd.underlying124]
  simp [e1, ptCells, hl]
def keyL (h : List Int) (ix : Int) : Lit := .string (keyBytes (ptLits h ix))
theorem someTypes3 : ∃ D, Tryd.prog.types.size + 1 = D + 3 := ⟨Tryd.prog.types.size - 2, by have : 2 ≤ Tryd.prog.types.size := of_decide_eq_true (by kernel_rfl); omega⟩
theorem keyOf_point (h : List Int) (ix : Int) (hl : h.length = 32) (hb : Bytes h) (hx : U32 ix) : keyOf Tryd.prog 124 (.agg (ptCells h ix).toArray) = some (keyL h ix) := by
  have hk : Tryd.prog.keyType 124 = true := by kernel_rfl
  obtain ⟨D, hD⟩ := someTypes3
  have h1 := lits_point D h ix hl hb hx
  unfold keyOf
  rw [Tryd.underlying124]
  simp only [hk, pt_formed h ix hl, Bool.and_self, if_true, hD, Value.cells, h1, Option.map_some]
  rfl
theorem keyL_inj {h h' : List Int} {x x' : Int} (hl : h.length = 32) (hb : Bytes h) (hx : U32 x) (hl' : h'.length = 32) (hb' : Bytes h') (hx' : U32 x') (e : keyL h x = keyL h' x') : h = h' ∧ x = x' := by
  have e1 : keyBytes (ptLits h x) = keyBytes (ptLits h' x') := by
    unfold keyL at e
    exact Lit.string.inj e
  exact ptLits_inj (keyLits_inj (lits_point 0 h x hl hb hx) (lits_point 0 h' x' hl' hb' hx') e1) (by rw [hl, hl'])
theorem pt_equal (W : World) (h h' : List Int) (x x' : Int) (hl : h.length = 32) (hb : Bytes h) (hx : U32 x) (hl' : h'.length = 32) (hb' : Bytes h') (hx' : U32 x') :
    (Op.equalIn 10000 124 (.agg (ptCells h x).toArray) (.agg (ptCells h' x').toArray)).run Tryd.prog W = .ok (decide (h = h' ∧ x = x')) W := by
  have hd := run_equalIn_deep (P := Tryd.prog) 9996 4 124 (by kernel_rfl)
  obtain ⟨r, hr, hiff⟩ := hd W 3 3 (.agg (ptCells h x).toArray) (.agg (ptCells h' x').toArray) _ _ (pt_formed h x hl) (pt_formed h' x' hl') (lits_point 0 h x hl hb hx) (lits_point 0 h' x' hl' hb' hx')
  suffices key : r = decide (h = h' ∧ x = x') by rw [hr, key]
  clear hr hd
  by_cases he : h = h' ∧ x = x'
  · rw [decide_eq_true he]; exact hiff.2 (by rw [he.1, he.2])
  · rw [decide_eq_false he]
    cases r
    · rfl
    · exact absurd (ptLits_inj (hiff.1 rfl) (by rw [hl, hl'])) he
theorem hash_equal (W : World) (h h' : List Int) (hl : h.length = 32) (hb : Bytes h) (hl' : h'.length = 32) (hb' : Bytes h') :
    (Op.equalIn 10000 24 (.agg (h.map (Value.int .u8)).toArray) (.agg (h'.map (Value.int .u8)).toArray)).run Tryd.prog W = .ok (decide (h = h')) W := by
  have e1 : Tryd.prog.cellsOf 24 = 32 := by kernel_rfl
  have fm : ∀ (l : List Int), l.length = 32 → (Value.agg (l.map (Value.int .u8)).toArray).formed Tryd.prog 24 = true := fun l hl => by
    unfold Value.formed
    rw [Tryd.underlying24]
    simp [e1, hl]
  have hd := run_equalIn_deep (P := Tryd.prog) 9996 4 24 (by kernel_rfl)
  obtain ⟨r, hr, hiff⟩ := hd W 2 2 _ _ _ _ (fm h hl) (fm h' hl') (lits_hash 0 h hl hb) (lits_hash 0 h' hl' hb')
  suffices key : r = decide (h = h') by rw [hr, key]
  clear hr hd
  have inj : h.map (Lit.int .u8) = h'.map (Lit.int .u8) → h = h' := fun e => by
    have := congrArg (List.map (fun l => match l with | Lit.int _ n => n | _ => 0)) e
    simpa [List.map_map, Function.comp_def] using this
  by_cases he : h = h'
  · rw [decide_eq_true he]; exact hiff.2 (by rw [he])
  · rw [decide_eq_false he]
    cases r
    · rfl
    · exact absurd (inj (hiff.1 rfl)) he
end Go.Proofs.YtclhjlkgmeofcaaDoor
