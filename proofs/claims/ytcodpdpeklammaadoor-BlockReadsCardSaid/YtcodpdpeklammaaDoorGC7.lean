/- Size, Weight, Virtual; how many bytes a cut transaction has. | A place of an output as a map's key, and two of them compared; both Coinbase. | Both Coinbase. | amount.Add, both Valid; a slice of numbers of one's own; a map of places that were seen; what Check says, in plain Lean. | tx.Check. | strongboxref09.Check. | strongboxlaw09.awake: yes. strongboxlaw09.few. -/
import Derived.Test.YtcodpdpeklammaaDoorGC6
import Derived.Test.YtcodpdpeklammaaDoorGA9
import Derived.Test.YtcodpdpeklammaaDoorGC5
import Derived.DeepKeys4
import Derived.DeepKeys
import Derived.Maps.OwnSet
import Derived.Laws.StructEq
import Derived.BigQuiet
import Derived.Test.YtcodpdpeklammaaDoorGB0
namespace Go.Proofs.YtcodpdpeklammaaDoor
set_option linter.unusedVariables false
set_option linter.unusedSimpArgs false
open Go Go.RowKit

theorem fits_few (d : TxD) (h : d.ins.all (fun i => i.hash.length == 32) = true) : Fits (fewD 10 600 d) := by
  have ht : ∀ l : List Int, l.length ≤ 600 → (textB l).length ≤ 609 := fun l hl => by
    have := sizeB_len (l.length : Int)
    unfold textB; rw [List.length_append]; omega
  have h1 : ((fewD 10 600 d).ins.flatMap inB).length ≤ 10 * 649 := by
    refine Nat.le_trans (flat_le inB 649 _ (fun x hx => ?_)) (Nat.mul_le_mul_right _ (by simp [fewD]; omega))
    obtain ⟨y, hy, rfl⟩ := List.mem_map.1 hx
    have h32 : y.hash.length = 32 := by have := List.all_eq_true.1 h y (List.mem_of_mem_take hy); simpa using this
    have := ht (y.script.take 600) (by simp; omega)
    unfold inB trimIn
    simp only [List.length_append, leB_length]
    omega
  have h2 : ((fewD 10 600 d).outs.flatMap outB).length ≤ 10 * 617 := by
    refine Nat.le_trans (flat_le outB 617 _ (fun x hx => ?_)) (Nat.mul_le_mul_right _ (by simp [fewD]; omega))
    obtain ⟨y, hy, rfl⟩ := List.mem_map.1 hx
    have := ht (y.script.take 600) (by simp; omega)
    unfold outB trimOut
    simp only [List.length_append, leB_length]
    omega
  have h3 : ((fewD 10 600 d).ins.flatMap witB).length ≤ 10 * 6099 := by
    refine Nat.le_trans (flat_le witB 6099 _ (fun x hx => ?_)) (Nat.mul_le_mul_right _ (by simp [fewD]; omega))
    obtain ⟨y, hy, rfl⟩ := List.mem_map.1 hx
    have hs := sizeB_len ((trimIn 10 600 y).wit.length : Int)
    have hw : ((trimIn 10 600 y).wit.flatMap textB).length ≤ 10 * 609 := by
      refine Nat.le_trans (flat_le textB 609 _ (fun z hz => ?_)) (Nat.mul_le_mul_right _ (by simp [trimIn]; omega))
      obtain ⟨q, hq, rfl⟩ := List.mem_map.1 hz
      exact ht _ (by simp; omega)
    unfold witB
    rw [List.length_append]
    omega
  have s1 := sizeB_len ((fewD 10 600 d).ins.length : Int)
  have s2 := sizeB_len ((fewD 10 600 d).outs.length : Int)
  unfold Fits insB outsB
  rw [List.length_append, List.length_append]
  omega
theorem enc_le (d : TxD) (wit : Bool) (h : Fits d) : (encB d wit).length ≤ 1000000000010 := by
  unfold Fits at h
  unfold encB
  simp only [List.length_append, leB_length]
  by_cases hc : (wit && witnessedD d) = true
  · rw [if_pos hc, if_pos hc]; simp only [List.length_cons, List.length_nil]; omega
  · rw [if_neg hc, if_neg hc]; simp only [List.length_nil]; omega
end Go.Proofs.YtcodpdpeklammaaDoor
namespace Go.Proofs.YtcodpdpeklammaaDoor
set_option linter.unusedVariables false
set_option linter.unusedSimpArgs false
open Go Go.RowKit

def ptCells (h : List Int) (ix : Int) : List Value := h.map (Value.int .u8) ++ [.int .u32 ix]
theorem pointCells_pt (d : InD) : pointCells d = ptCells d.hash d.index := rfl
def ptLits (h : List Int) (ix : Int) : List Lit := h.map (Lit.int .u8) ++ [.int .u32 ix]
theorem mapM_all {α β : Type} (f : α → Option β) (g : α → β) : ∀ (L : List α), (∀ i ∈ L, f i = some (g i)) → L.mapM f = some (L.map g)
  | [], _ => rfl
  | a :: L, h => by
    rw [List.mapM_cons, h a (by simp), mapM_all f g L (fun i hi => h i (by simp [hi]))]
    rfl
theorem flat_single {α β : Type} (f : α → β) : ∀ (L : List α), (L.map (fun i => [f i])).flatten = L.map f
  | [] => rfl
  | a :: L => by simp [flat_single f L]
theorem map_range_getD (h : List Int) : (List.range h.length).map (fun i => Lit.int .u8 (h.getD i 0)) = h.map (Lit.int .u8) := by
  apply List.ext_getElem
  · simp
  · intro i h1 h2
    have h3 : i < h.length := by simpa using h2
    simp [List.getD, h3]
theorem wf_u8 {x : Int} (h : Byte x) : (Lit.int .u8 x).wf = true := by
  obtain ⟨h0, h1⟩ := h
  unfold Lit.wf
  rw [Bool.and_eq_true, decide_eq_true_eq, decide_eq_true_eq]
  exact ⟨show (0 : Int) ≤ x from h0, show x ≤ (255 : Int) by omega⟩
theorem wf_u32 {x : Int} (h : U32 x) : (Lit.int .u32 x).wf = true := by
  obtain ⟨h0, h1⟩ := h
  unfold Lit.wf
  rw [Bool.and_eq_true, decide_eq_true_eq, decide_eq_true_eq]
  exact ⟨show (0 : Int) ≤ x from h0, show x ≤ (4294967295 : Int) by omega⟩
theorem lits_int (D : Nat) (t : TypeId) (k : IntKind) (x : Int) (hu : Tryd.prog.underlying t = some (.int k)) (hw : (Lit.int k x).wf = true) : Tryd.prog.keyLits (D + 1) t [.int k x] = some [.int k x] := by
  unfold Program.keyLits
  rw [hu]
  simp only [hw, and_self, if_true]
theorem lits_hash (D : Nat) (h : List Int) (hl : h.length = 32) (hb : Bytes h) : Tryd.prog.keyLits (D + 2) 27 (h.map (Value.int .u8)) = some (h.map (Lit.int .u8)) := by
  have e1 : Tryd.prog.cellsOf 27 = 32 := by kernel_rfl
  have e2 : Tryd.prog.cellsOf 5 = 1 := by kernel_rfl
  have e4 : (List.range 32).mapM (fun i => Tryd.prog.keyLits (D + 1) 5 (((h.map (Value.int .u8)).drop (i * 1)).take 1)) = some ((List.range 32).map (fun i => [Lit.int .u8 (h.getD i 0)])) := by
    refine mapM_all _ _ _ (fun i hi => ?_)
    have hi' : i < h.length := by rw [hl]; exact List.mem_range.1 hi
    have e3 : ((h.map (Value.int .u8)).drop (i * 1)).take 1 = [.int .u8 (h.getD i 0)] := by
      rw [Nat.mul_one, List.drop_eq_getElem_cons (by simpa using hi')]
      simp [List.getD, hi']
    rw [e3]
    exact lits_int D _ _ _ Tryd.underlying5 (wf_u8 (hb.getD i))
  unfold Program.keyLits
  rw [Tryd.underlying27]
  simp only [e1, e2]
  rw [if_pos (by rw [List.length_map, hl]), e4, Option.map_some, flat_single, ← hl, map_range_getD]
theorem lits_point (D : Nat) (h : List Int) (ix : Int) (hl : h.length = 32) (hb : Bytes h) (hx : U32 ix) : Tryd.prog.keyLits (D + 3) 103 (ptCells h ix) = some (ptLits h ix) := by
  have e1 : Tryd.prog.cellsOf 103 = 33 := by kernel_rfl
  have e2 : Tryd.prog.cellsOf 27 = 32 := by kernel_rfl
  have e3 : Tryd.prog.cellsOf 28 = 1 := by kernel_rfl
  have d1 : ((ptCells h ix).drop 0).take 32 = h.map (Value.int .u8) := by
    unfold ptCells
    rw [List.drop_zero, List.take_append_of_le_length (by simp [hl]), List.take_of_length_le (by simp [hl])]
  have d2 : ((ptCells h ix).drop 32).take 1 = [.int .u32 ix] := by
    unfold ptCells
    rw [List.drop_append, List.drop_eq_nil_of_le (by simp [hl])]
    simp [hl]
  unfold Program.keyLits
  rw [Tryd.underlying103]
  simp only [e1]
  rw [if_pos ⟨by unfold ptCells; simp [hl], by kernel_rfl⟩]
  simp only [List.mapM_cons, List.mapM_nil, e2, e3, d1, d2, lits_hash (D) h hl hb, lits_int (D + 1) _ _ _ Tryd.underlying28 (wf_u32 hx)]
  simp [ptLits]
theorem ptLits_inj {h h' : List Int} {x x' : Int} (e : ptLits h x = ptLits h' x') (hl : h.length = h'.length) : h = h' ∧ x = x' := by
  unfold ptLits at e
  obtain ⟨e1, e2⟩ := List.append_inj e (by simp [hl])
  refine ⟨?_, by simpa using e2⟩
  have := congrArg (List.map (fun l => match l with | Lit.int _ n => n | _ => 0)) e1
  simpa [List.map_map, Function.comp_def] using this
theorem pt_formed (h : List Int) (ix : Int) (hl : h.length = 32) : (Value.agg (ptCells h ix).toArray).formed Tryd.prog 103 = true := by
  have e1 : Tryd.prog.cellsOf 103 = 33 := by kernel_rfl
  unfold Value.formed
  rw [Tryd.underlying103]
  simp [e1, ptCells, hl]
def keyL (h : List Int) (ix : Int) : Lit := .string (keyBytes (ptLits h ix))
theorem someTypes3 : ∃ D, Tryd.prog.types.size + 1 = D + 3 := ⟨Tryd.prog.types.size - 2, by have : 2 ≤ Tryd.prog.types.size := of_decide_eq_true (by kernel_rfl); omega⟩
theorem keyOf_point (h : List Int) (ix : Int) (hl : h.length = 32) (hb : Bytes h) (hx : U32 ix) : keyOf Tryd.prog 103 (.agg (ptCells h ix).toArray) = some (keyL h ix) := by
  have hk : Tryd.prog.keyType 103 = true := by kernel_rfl
  obtain ⟨D, hD⟩ := someTypes3
  have h1 := lits_point D h ix hl hb hx
  unfold keyOf
  rw [Tryd.underlying103]
  simp only [hk, pt_formed h ix hl, Bool.and_self, if_true, hD, Value.cells, h1, Option.map_some]
  rfl
theorem keyL_inj {h h' : List Int} {x x' : Int} (hl : h.length = 32) (hb : Bytes h) (hx : U32 x) (hl' : h'.length = 32) (hb' : Bytes h') (hx' : U32 x') (e : keyL h x = keyL h' x') : h = h' ∧ x = x' := by
  have e1 : keyBytes (ptLits h x) = keyBytes (ptLits h' x') := by
    unfold keyL at e
    exact Lit.string.inj e
  exact ptLits_inj (keyLits_inj (lits_point 0 h x hl hb hx) (lits_point 0 h' x' hl' hb' hx') e1) (by rw [hl, hl'])
theorem pt_equal (W : World) (h h' : List Int) (x x' : Int) (hl : h.length = 32) (hb : Bytes h) (hx : U32 x) (hl' : h'.length = 32) (hb' : Bytes h') (hx' : U32 x') :
    (Op.equalIn 10000 103 (.agg (ptCells h x).toArray) (.agg (ptCells h' x').toArray)).run Tryd.prog W = .ok (decide (h = h' ∧ x = x')) W := by
  have hd := run_equalIn_deep (P := Tryd.prog) 9996 4 103 (by kernel_rfl)
  obtain ⟨r, hr, hiff⟩ := hd W 3 3 (.agg (ptCells h x).toArray) (.agg (ptCells h' x').toArray) _ _ (pt_formed h x hl) (pt_formed h' x' hl') (lits_point 0 h x hl hb hx) (lits_point 0 h' x' hl' hb' hx')
  suffices key : r = decide (h = h' ∧ x = x') by rw [hr, key]
  clear hr hd
  by_cases he : h = h' ∧ x = x'
  · rw [decide_eq_true he]; exact hiff.2 (by rw [he.1, he.2])
  · rw [decide_eq_false he]
    cases r
    · rfl
    · exact absurd (ptLits_inj (hiff.1 rfl) (by rw [hl, hl'])) he
theorem hash_equal (W : World) (h h' : List Int) (hl : h.length = 32) (hb : Bytes h) (hl' : h'.length = 32) (hb' : Bytes h') :
    (Op.equalIn 10000 27 (.agg (h.map (Value.int .u8)).toArray) (.agg (h'.map (Value.int .u8)).toArray)).run Tryd.prog W = .ok (decide (h = h')) W := by
  have e1 : Tryd.prog.cellsOf 27 = 32 := by kernel_rfl
  have fm : ∀ (l : List Int), l.length = 32 → (Value.agg (l.map (Value.int .u8)).toArray).formed Tryd.prog 27 = true := fun l hl => by
    unfold Value.formed
    rw [Tryd.underlying27]
    simp [e1, hl]
  have hd := run_equalIn_deep (P := Tryd.prog) 9996 4 27 (by kernel_rfl)
  obtain ⟨r, hr, hiff⟩ := hd W 2 2 _ _ _ _ (fm h hl) (fm h' hl') (lits_hash 0 h hl hb) (lits_hash 0 h' hl' hb')
  suffices key : r = decide (h = h') by rw [hr, key]
  clear hr hd
  have inj : h.map (Lit.int .u8) = h'.map (Lit.int .u8) → h = h' := fun e => by
    have := congrArg (List.map (fun l => match l with | Lit.int _ n => n | _ => 0)) e
    simpa [List.map_map, Function.comp_def] using this
  by_cases he : h = h'
  · rw [decide_eq_true he]; exact hiff.2 (by rw [he])
  · rw [decide_eq_false he]
    cases r
    · rfl
    · exact absurd (inj (hiff.1 rfl)) he
end Go.Proofs.YtcodpdpeklammaaDoor
namespace Go.Proofs.YtcodpdpeklammaaDoor
set_option linter.unusedVariables false
set_option linter.unusedSimpArgs false
open Go Go.RowKit

def zero32 : List Int := List.replicate 32 0
theorem zero32_len : zero32.length = 32 := rfl
theorem zero32_bytes : Bytes zero32 := by unfold Bytes Byte zero32; decide
def isEmptyD (d : InD) : Bool := decide (d.hash = zero32 ∧ d.index = 4294967295)
def cbD (d : TxD) : Bool := match d.ins with
  | [x] => isEmptyD x
  | _ => false
theorem wpList_eql_at {P : Program} {ops : Array Oper} {rest : List Oper} {o : Oper} {a : Act} {w : World} {Q : Exit → Act → World → Prop} (hw : Region.wanted o (yielded ops a.tmps) = true) (t t' : TypeId) (x y : Operand) (ho : o.op = .binOp .eql t x y t') (A B : Array Value) (hx : a.eval x = .agg A) (hy : a.eval y = .agg B) (r : Bool)
    (hE : ∀ W, (Op.equalIn 10000 t (.agg A) (.agg B)).run P W = .ok r W) (hm : P.eqGuardType P.depth t = false) (h : wpList P ops Q rest (a.put o.dst (.bool r)) w) : wpList P ops Q (o :: rest) a w :=
  BigFrame.wpList_want hw fun _ hK => by
    unfold Oper.wp execOp
    simp only [ho, hx, hy]
    simp only [Sem.run_bind, Sem.run_pure, run_eqGuard_agg _ _ _ _ _ _ _ hm, run_eql_struct, hE, Result.andThen_ok]
    exact hK _ _ h
theorem wpList_load_on {P : Program} {ops : Array Oper} {rest : List Oper} {o : Oper} {a : Act} {w : World} {Q : Exit → Act → World → Prop} (hw : Region.wanted o (yielded ops a.tmps) = true) (ty : TypeId) (x : Operand) (ho : o.op = .load ty x)
    (g off : Nat) (hx : a.eval x = .pointer (some ⟨g, off, none⟩)) (cs : List Value) (d : TypeDesc) (hg : Row w g off cs)
    (hu : P.underlying ty = some d) (hd : (match d with | .struct _ | .array _ _ => true | _ => false) = true) (hi : (P.info? ty).map (·.size) = some cs.length)
    (h : wpList P ops Q rest (a.put o.dst (.agg cs.toArray)) w) : wpList P ops Q (o :: rest) a w :=
  BigFrame.wpList_want hw fun _ hK => by
    unfold Oper.wp execOp
    simp only [ho, hx, Instr.loadAt, Instr.sureAddr, Sem.run_bind, Sem.run_pure, Result.andThen_ok, run_loadVar_at w g off ty cs d hg hu hd hi]
    exact hK _ _ h
theorem sz_pt (h : List Int) (x : Int) (hl : h.length = 32) : (Tryd.prog.info? 103).map (·.size) = some (ptCells h x).length := by rw [show (ptCells h x).length = 33 by simp [ptCells, hl]]; kernel_rfl
def emptyCells : List Value := [.int .u8 0, .int .u8 0, .int .u8 0, .int .u8 0, .int .u8 0, .int .u8 0, .int .u8 0, .int .u8 0, .int .u8 0, .int .u8 0, .int .u8 0, .int .u8 0, .int .u8 0, .int .u8 0, .int .u8 0, .int .u8 0, .int .u8 0, .int .u8 0, .int .u8 0, .int .u8 0, .int .u8 0, .int .u8 0, .int .u8 0, .int .u8 0, .int .u8 0, .int .u8 0, .int .u8 0, .int .u8 0, .int .u8 0, .int .u8 0, .int .u8 0, .int .u8 0, .int .u32 4294967295]
theorem emptyCells_pt : emptyCells = ptCells zero32 4294967295 := by simp [emptyCells, ptCells, zero32, List.replicate]
/-- the first input's place, its cells -/
theorem first_pt {w : World} {b o : Nat} {d : InD} {sv wv : Value} (h : Row w b o (inCells d sv wv)) (hl : d.hash.length = 32) : Row w b o (ptCells d.hash d.index) := by
  have := h.take 33
  rw [inCells_point, List.take_append_of_le_length (by rw [pointCells_length _ hl]; exact Nat.le_refl _), List.take_of_length_le (by rw [pointCells_length _ hl]; exact Nat.le_refl _)] at this
  exact this
theorem cbD_one {d : TxD} {x : InD} (h : d.ins[0]? = some x) (hl : d.ins.length = 1) : cbD d = isEmptyD x := by
  unfold cbD
  match hd : d.ins, hl with
  | [y], _ => rw [hd] at h; cases h; rfl
theorem cbD_not {d : TxD} (hl : d.ins.length ≠ 1) : cbD d = false := by
  unfold cbD
  match hd : d.ins with
  | [] => rfl
  | [y] => rw [hd] at hl; exact absurd rfl hl
  | _ :: _ :: _ => rfl
end Go.Proofs.YtcodpdpeklammaaDoor
namespace Go.Proofs.YtcodpdpeklammaaDoor
set_option linter.unusedVariables false
set_option linter.unusedSimpArgs false
open Go Go.RowKit

def validB (v : Int) : Bool := decide (0 ≤ v) && decide (v ≤ 2100000000000000)
theorem validB_true {v : Int} (h0 : 0 ≤ v) (h1 : v ≤ 2100000000000000) : validB v = true := by unfold validB; simp; omega
theorem validB_of {v : Int} (h : validB v = true) : 0 ≤ v ∧ v ≤ 2100000000000000 := by unfold validB at h; simp at h; omega
theorem validB_not {v : Int} (h : validB v = false) : v < 0 ∨ 2100000000000000 < v := by unfold validB at h; simp at h; omega
def addGo (s : Int) : List Int → Int × Int
  | [] => (s, 0)
  | v :: r => if validB v && validB (s + v) then addGo (s + v) r else (0, 6)
theorem addGo_cons (s : Int) (zs : List Int) (k : Nat) (h : k < zs.length) : addGo s (zs.drop k) = if validB (zs.getD k 0) && validB (s + zs.getD k 0) then addGo (s + zs.getD k 0) (zs.drop (k+1)) else (0, 6) := by
  have e : zs.getD k 0 = zs[k] := by simp [h]
  rw [List.drop_eq_getElem_cons h, addGo, e]
theorem i64_info : (Tryd.prog.info? 2).map (fun i => (i.zero, i.size, i.bytes)) = some (some (.int .i64 0), 1, 8) := by kernel_rfl
/-- a slice of numbers of one's own -/
structure OwnZ (w W : World) (v : Value) (zs : List Int) : Prop where
  keeps : Keeps w W
  buf : Buf W 1 v zs.length (zs.map (Value.int .i64))
  new : ∀ g, v.ownBlock = some g → w.heap.size ≤ g
theorem OwnZ.nil (w : World) : OwnZ w w (.slice none 0 0) [] := ⟨Keeps.refl _, Buf.nil _ _, fun g h => by simp [Value.ownBlock] at h⟩
theorem OwnZ.step {w W W' : World} {v : Value} {zs : List Int} (h : OwnZ w W v zs) (hk : Keeps W W') : OwnZ w W' v zs := ⟨h.keeps.trans hk, h.buf.keeps hk, h.new⟩
theorem OwnZ.any {w W : World} {v : Value} {zs : List Int} (h : OwnZ w W v zs) : ∃ a cap, v = .slice a zs.length cap := by
  obtain ⟨a, cap, h1, _⟩ := h.buf.any
  exact ⟨a, cap, h1⟩
theorem OwnZ.ints {w W : World} {a : Option Addr} {n cap : Nat} {zs : List Int} (h : OwnZ w W (.slice a n cap) zs) : SlInts .i64 W a zs := by
  intro hz
  have hl : 0 < zs.length := by cases zs with | nil => exact absurd rfl hz | cons _ _ => simp
  obtain ⟨g, off, c, e, _, _, hg, hr⟩ := h.buf.form (.inr hl)
  cases e
  exact ⟨g, off, rfl, hg, fun i hi => hr.int i hi⟩
/-- two inputs spend the same -/
def SamePt (a b : InD) : Prop := a.hash = b.hash ∧ a.index = b.index
def Dup (l : List InD) : Prop := ∃ (i k : Nat) (a b : InD), k < i ∧ l[i]? = some a ∧ l[k]? = some b ∧ SamePt a b
def BadSize (d : TxD) : Prop := ∃ x, d.ins[0]? = some x ∧ (x.script.length < 2 ∨ 100 < x.script.length)
def AnyEmpty (d : TxD) : Prop := ∃ x ∈ d.ins, isEmptyD x = true
/-- what Check says -/
def Chk (d : TxD) (r : Int) : Prop :=
  ((d.ins.length = 0 ∨ d.outs.length = 0) → r = 3) ∧ (¬ (d.ins.length = 0 ∨ d.outs.length = 0) →
    (100000 < (encB d false).length → r = 2) ∧ (¬ 100000 < (encB d false).length →
      ((addGo 0 (d.outs.map (·.value))).2 ≠ 0 → r = 6) ∧ ((addGo 0 (d.outs.map (·.value))).2 = 0 →
        (Dup d.ins → r = 18) ∧ (¬ Dup d.ins →
          (cbD d = true → (BadSize d → r = 3) ∧ (¬ BadSize d → r = 0)) ∧ (cbD d = false → (AnyEmpty d → r = 7) ∧ (¬ AnyEmpty d → r = 0))))))
theorem Chk.fn {d : TxD} {r s : Int} (h : Chk d r) (k : Chk d s) : r = s := by
  unfold Chk at h k
  by_cases a : d.ins.length = 0 ∨ d.outs.length = 0
  · rw [h.1 a, k.1 a]
  · have h := h.2 a; have k := k.2 a
    by_cases b : 100000 < (encB d false).length
    · rw [h.1 b, k.1 b]
    · have h := h.2 b; have k := k.2 b
      by_cases c : (addGo 0 (d.outs.map (·.value))).2 = 0
      · have h := h.2 c; have k := k.2 c
        by_cases e : Dup d.ins
        · rw [h.1 e, k.1 e]
        · have h := h.2 e; have k := k.2 e
          cases f : cbD d
          · have h := h.2 f; have k := k.2 f
            by_cases g : AnyEmpty d
            · rw [h.1 g, k.1 g]
            · rw [h.2 g, k.2 g]
          · have h := h.1 f; have k := k.1 f
            by_cases g : BadSize d
            · rw [h.1 g, k.1 g]
            · rw [h.2 g, k.2 g]
      · rw [h.1 c, k.1 c]
theorem addGo_two (s : Int) (l : List Int) : (addGo s l).2 = 0 ∨ (addGo s l).2 = 6 := by
  induction l generalizing s with
  | nil => exact .inl rfl
  | cons v r ih =>
    unfold addGo
    split
    · exact ih _
    · exact .inr rfl
end Go.Proofs.YtcodpdpeklammaaDoor
namespace Go.Proofs.YtcodpdpeklammaaDoor
set_option linter.unusedVariables false
set_option linter.unusedSimpArgs false
open Go Go.RowKit

theorem laidOutC : laidOutB Tryd.prog = true := by kernel_rfl
theorem ptKeyed : Maps.Keyed Tryd.prog 103 := Maps.Keyed.of_law (deep_law_laid laidOutC (m := 4) (by omega) (of_decide_eq_true (by kernel_rfl)) (by kernel_rfl) (by kernel_rfl))
theorem zero_bool (w : World) : (zeroValue 4).run Tryd.prog w = .ok (.bool false) w := by
  have h : (Tryd.prog.info? 4).map (·.zero) = some (some (.bool false)) := by kernel_rfl
  cases hq : Tryd.prog.info? 4 with
  | none => simp [hq] at h
  | some i => simp [hq] at h; simp [zeroValue, typeInfo, hq, h]
theorem plainElem_bool_inv {e : TypeId} (he : Tryd.prog.underlying e = some .bool) {v : Value} {b : Bool} {ps : List MemPlace} (h : plainElem (H := Unit) Tryd.prog e v = some (.lit (.bool b), ps)) : v = .bool b := by
  unfold plainElem at h
  rw [he] at h
  cases v <;> simp at h
  rw [h.1]
theorem wpList_find_bool {k e : TypeId} {w w0 : World} {ops : Array Oper} {rest : List Oper} {o : Oper} {a : Act} {Q : Exit → Act → World → Prop} (hg : o.guard = none) (m x : Operand) (t : TypeId) (hop : o.op = Op.lookup t m x false)
    (K : Maps.Keyed Tryd.prog k) (ht : Tryd.prog.underlying t = some (.map k e)) (he : Tryd.prog.underlying e = some .bool) {b n : Nat} {D : DataW Unit} (hown : OMap k e w0 w b n D) (hz : (zeroValue e).run Tryd.prog w = .ok (.bool false) w) (hm : a.eval m = .map (some b)) (key : Value) (kl : Lit) (hx : a.eval x = key) (hkey : keyOf Tryd.prog k key = some kl)
    (c : Bool) (hc : D.atKey kl (.lit (.bool false)) = .lit (.bool c)) (hK : wpList Tryd.prog ops Q rest (a.put o.dst (.bool c)) w) : wpList Tryd.prog ops Q (o :: rest) a w := by
  refine wpList_plain hg fun K' hK' => ?_
  obtain ⟨v, ps, hrun, hv⟩ := hown.own.lookup K ht hz (plainElem_bool he false) hkey
  rw [hc] at hv
  obtain rfl := plainElem_bool_inv he hv
  unfold Oper.wp
  simp [execOp, hop, hm, hx, hrun, Result.andThen]
  exact hK' _ _ hK
/-- the map D tells of each place whether one of l spends it -/
def Seen (D : DataW Unit) (l : List InD) : Prop := Maps.IsMap D ∧ ∀ (h : List Int) (x : Int), h.length = 32 → Bytes h → U32 x → ∃ b : Bool, D.atKey (keyL h x) (.lit (.bool false)) = .lit (.bool b) ∧ (b = true ↔ ∃ a ∈ l, a.hash = h ∧ a.index = x)
theorem Seen.nil : Seen (.map []) [] := ⟨⟨[], rfl⟩, fun h x _ _ _ => ⟨false, rfl, by simp⟩⟩
theorem Seen.put {D : DataW Unit} {l : List InD} {d : InD} (h : Seen D l) (hl : ∀ a ∈ l, a.Ok) (hd : d.Ok) (hm : Maps.IsMap (D.put (keyL d.hash d.index) (.lit (.bool true)))) : Seen (D.put (keyL d.hash d.index) (.lit (.bool true))) (l ++ [d]) := by
  refine ⟨hm, fun hh x h1 h2 h3 => ?_⟩
  by_cases e : keyL hh x = keyL d.hash d.index
  · refine ⟨true, ?_, ?_⟩
    · rw [e, Maps.atKey_put_same h.1 (by unfold keyL; first | trivial | (unfold WideAt.IsKeyLit; trivial) | simp [WideAt.IsKeyLit])]
    · obtain ⟨e1, e2⟩ := keyL_inj h1 h2 h3 hd.hashLen hd.hash hd.index e
      exact ⟨fun _ => ⟨d, by simp, e1.symm, e2.symm⟩, fun _ => rfl⟩
  · obtain ⟨b, hb, hiff⟩ := h.2 hh x h1 h2 h3
    refine ⟨b, ?_, ?_⟩
    · rw [Maps.atKey_put_other e]; exact hb
    · rw [hiff]
      constructor
      · rintro ⟨a, ha, r⟩; exact ⟨a, by simp [ha], r⟩
      · rintro ⟨a, ha, r1, r2⟩
        rcases List.mem_append.1 ha with ha | ha
        · exact ⟨a, ha, r1, r2⟩
        · simp at ha; subst ha; exact absurd (by rw [r1, r2]) e
/-- no two of the first i spend the same -/
def NoDup (l : List InD) (i : Nat) : Prop := ∀ (m k : Nat) (a b : InD), m < i → k < m → l[m]? = some a → l[k]? = some b → ¬ SamePt a b
end Go.Proofs.YtcodpdpeklammaaDoor
namespace Go.Proofs.YtcodpdpeklammaaDoor
set_option linter.unusedVariables false
set_option linter.unusedSimpArgs false
open Go Go.RowKit

end Go.Proofs.YtcodpdpeklammaaDoor
namespace Go.Proofs.YtcodpdpeklammaaDoor
set_option linter.unusedVariables false
set_option linter.unusedSimpArgs false
open Go Go.RowKit

def NoB : Nat → Prop := fun _ => False
def in0 : InD := ⟨zero32, 4294967295, [], 0, []⟩
def tx0 : TxD := ⟨1, [in0], [⟨5, []⟩], 0⟩
theorem rd_none (W : World) (sz : Nat) : Rd W sz (.slice none 0 0) 0 [] := ⟨by simp, none, 0, rfl, Nat.le_refl _, Nat.zero_le _, fun _ => ⟨rfl, rfl⟩, fun ad e _ => (by cases e)⟩
theorem rb_none (S : Nat → Prop) (W : World) : RB S W (.slice none 0 0) [] := ⟨rd_none W 1, fun x hx => (by cases hx), by simp, fun g h => by simp [Value.ownBlock] at h⟩
theorem rll_none (S T : Nat → Prop) (W : World) : RLL S T W (.slice none 0 0) [] := ⟨[], rd_none W 1, fun i u l hu hl => (by simp at hu), by simp, fun g h => by simp [Value.ownBlock] at h⟩
theorem rd_row {W : World} {g sz : Nat} {cs : List Value} (h : Row W g 0 cs) (hl : cs.length = sz) (hg : g < W.heap.size) : Rd W sz (.slice (some ⟨g, 0, none⟩) 1 1) 1 cs :=
  ⟨by rw [hl, Nat.one_mul], some ⟨g, 0, none⟩, 1, rfl, Nat.le_refl _, by unfold maxLen; omega, fun e => (by cases e), fun ad e _ => by cases e; exact ⟨g, 0, rfl, hg, h⟩⟩
def in0C : List Value := emptyCells ++ [.slice none 0 0, .int .u32 0, .slice none 0 0]
theorem in0C_eq : in0C = inCells in0 (.slice none 0 0) (.slice none 0 0) := by
  unfold in0C inCells
  rw [emptyCells_pt]
  show ptCells zero32 4294967295 ++ _ = zero32.map (Value.int .u8) ++ _
  unfold ptCells
  rw [List.append_assoc]
  rfl
theorem in0_ok : in0.Ok := ⟨rfl, zero32_bytes, ⟨by decide, by decide⟩, ⟨by decide, by decide⟩⟩
theorem tx0_rtx {W : World} {p q : Nat} (h1 : Row W p 0 in0C) (h2 : Row W q 0 [.int .i64 5, .slice none 0 0]) (hp : p < W.heap.size) (hq : q < W.heap.size) :
    RTx NoB NoB AnyB W (.slice (some ⟨p, 0, none⟩) 1 1) (.slice (some ⟨q, 0, none⟩) 1 1) tx0 := by
  refine ⟨⟨by decide, by decide⟩, ⟨by decide, by decide⟩, ⟨in0C, [(.slice none 0 0, .slice none 0 0)], rd_row h1 rfl hp, rfl, fun i pp d hp' hd => ?_, by decide, fun g _ => trivial⟩, ⟨[.int .i64 5, .slice none 0 0], [.slice none 0 0], rd_row h2 rfl hq, rfl, fun i pp d hp' hd => ?_, by decide, fun g _ => trivial⟩⟩
  · have hi : i = 0 := by have := (List.getElem?_eq_some_iff.1 hp').1; simp at this; exact this
    subst hi
    simp only [tx0, List.getElem?_cons_zero, Option.some.injEq] at hp' hd
    subst hp' hd
    refine ⟨⟨in0_ok, rb_none _ _, rll_none _ _ _⟩, ?_⟩
    rw [← in0C_eq]
    rfl
  · have hi : i = 0 := by have := (List.getElem?_eq_some_iff.1 hp').1; simp at this; exact this
    subst hi
    simp only [tx0, List.getElem?_cons_zero, Option.some.injEq] at hp' hd
    subst hp' hd
    exact ⟨rb_none _ _, ⟨by decide, by decide⟩, rfl⟩
theorem tx0_fits : Fits tx0 := by unfold Fits; decide +kernel
theorem tx0_len (b : Bool) : (encB tx0 b).length = 60 := by cases b <;> decide +kernel
theorem tx0_cb : cbD tx0 = true := by decide +kernel
theorem tx0_chk (r : Int) (h : Chk tx0 r) : r = 3 := by
  unfold Chk at h
  have h1 := h.2 (by decide)
  have h2 := h1.2 (by rw [tx0_len]; decide)
  have h3 := h2.2 (by decide +kernel)
  have h4 := h3.2 (by
    rintro ⟨i, k, a, b, hk, hi, _⟩
    have := (List.getElem?_eq_some_iff.1 hi).1
    simp [tx0] at this; omega)
  exact (h4.1 tx0_cb).1 ⟨in0, rfl, .inl (by decide)⟩
end Go.Proofs.YtcodpdpeklammaaDoor
