/- Size, Weight, Virtual; how many bytes a cut transaction has. | A place of an output as a map's key, and two of them compared; both Coinbase. | Both Coinbase. | amount.Add, both Valid; a slice of numbers of one's own; a map of places that were seen; what Check says, in plain Lean. | tx.Check. | strongboxref09.Check. | strongboxlaw09.awake: yes. strongboxlaw09.few. | tx.reader's tx: reading a whole transaction in steps, in plain Lean; what it holds on the way. -/
import Derived.Test.YtcodpdpeklammaaGreatDoorGC0
import Derived.Test.YtcodpdpeklammaaGreatDoorGA7
import Derived.Test.YtcodpdpeklammaaGreatDoorGB9
import Derived.DeepKeys4
import Derived.DeepKeys
import Derived.Maps.OwnSet
import Derived.Laws.StructEq
import Derived.BigQuiet
import Derived.Test.YtcodpdpeklammaaGreatDoorGA8
import Derived.Test.YtcodpdpeklammaaGreatDoorGB6
namespace Go.Proofs.YtcodpdpeklammaaGreatDoor
set_option linter.unusedVariables false
set_option linter.unusedSimpArgs false
open Go Go.RowKit

theorem fits_few (d : TxD) (h : d.ins.all (fun i => i.hash.length == 32) = true) : Fits (fewD 4 200 d) := by
  have ht : ∀ l : List Int, l.length ≤ 600 → (textB l).length ≤ 609 := fun l hl => by
    have := sizeB_len (l.length : Int)
    unfold textB; rw [List.length_append]; omega
  have h1 : ((fewD 4 200 d).ins.flatMap inB).length ≤ 10 * 649 := by
    refine Nat.le_trans (flat_le inB 649 _ (fun x hx => ?_)) (Nat.mul_le_mul_right _ (by simp [fewD]; omega))
    obtain ⟨y, hy, rfl⟩ := List.mem_map.1 hx
    have h32 : y.hash.length = 32 := by have := List.all_eq_true.1 h y (List.mem_of_mem_take hy); simpa using this
    have := ht (y.script.take 200) (by simp; omega)
    unfold inB trimIn
    simp only [List.length_append, leB_length]
    omega
  have h2 : ((fewD 4 200 d).outs.flatMap outB).length ≤ 10 * 617 := by
    refine Nat.le_trans (flat_le outB 617 _ (fun x hx => ?_)) (Nat.mul_le_mul_right _ (by simp [fewD]; omega))
    obtain ⟨y, hy, rfl⟩ := List.mem_map.1 hx
    have := ht (y.script.take 200) (by simp; omega)
    unfold outB trimOut
    simp only [List.length_append, leB_length]
    omega
  have h3 : ((fewD 4 200 d).ins.flatMap witB).length ≤ 10 * 6099 := by
    refine Nat.le_trans (flat_le witB 6099 _ (fun x hx => ?_)) (Nat.mul_le_mul_right _ (by simp [fewD]; omega))
    obtain ⟨y, hy, rfl⟩ := List.mem_map.1 hx
    have hs := sizeB_len ((trimIn 4 200 y).wit.length : Int)
    have hw : ((trimIn 4 200 y).wit.flatMap textB).length ≤ 10 * 609 := by
      refine Nat.le_trans (flat_le textB 609 _ (fun z hz => ?_)) (Nat.mul_le_mul_right _ (by simp [trimIn]; omega))
      obtain ⟨q, hq, rfl⟩ := List.mem_map.1 hz
      exact ht _ (by simp; omega)
    unfold witB
    rw [List.length_append]
    omega
  have s1 := sizeB_len ((fewD 4 200 d).ins.length : Int)
  have s2 := sizeB_len ((fewD 4 200 d).outs.length : Int)
  unfold Fits insB outsB
  rw [List.length_append, List.length_append]
  omega
theorem enc_le (d : TxD) (wit : Bool) (h : Fits d) : (encB d wit).length ≤ 1000000000010 := by
  unfold Fits at h
  unfold encB
  simp only [List.length_append, leB_length]
  by_cases hc : (wit && witnessedD d) = true
  · rw [if_pos hc, if_pos hc]; simp only [List.length_cons, List.length_nil]; omega
  · rw [if_neg hc, if_neg hc]; simp only [List.length_nil]; omega
def ptCells (h : List Int) (ix : Int) : List Value := h.map (Value.int .u8) ++ [.int .u32 ix]
def ptLits (h : List Int) (ix : Int) : List Lit := h.map (Lit.int .u8) ++ [.int .u32 ix]
theorem mapM_all {α β : Type} (f : α → Option β) (g : α → β) : ∀ (L : List α), (∀ i ∈ L, f i = some (g i)) → L.mapM f = some (L.map g)
  | [], _ => rfl
  | a :: L, h => by
    rw [List.mapM_cons, h a (by simp), mapM_all f g L (fun i hi => h i (by simp [hi]))]
    rfl
theorem flat_single {α β : Type} (f : α → β) : ∀ (L : List α), (L.map (fun i => [f i])).flatten = L.map f
  | [] => rfl
  | a :: L => by simp [flat_single f L]
theorem map_range_getD (h : List Int) : (List.range h.length).map (fun i => Lit.int .u8 (h.getD i 0)) = h.map (Lit.int .u8) := by
  apply List.ext_getElem
  · simp
  · intro i h1 h2
    have h3 : i < h.length := by simpa using h2
    simp [List.getD, h3]
theorem wf_u8 {x : Int} (h : Byte x) : (Lit.int .u8 x).wf = true := by
  obtain ⟨h0, h1⟩ := h
  unfold Lit.wf
  rw [Bool.and_eq_true, decide_eq_true_eq, decide_eq_true_eq]
  exact ⟨show (0 : Int) ≤ x from h0, show x ≤ (255 : Int) by omega⟩
theorem wf_u32 {x : Int} (h : U32 x) : (Lit.int .u32 x).wf = true := by
  obtain ⟨h0, h1⟩ := h
  unfold Lit.wf
  rw [Bool.and_eq_true, decide_eq_true_eq, decide_eq_true_eq]
  exact ⟨show (0 : Int) ≤ x from h0, show x ≤ (4294967295 : Int) by omega⟩
theorem lits_int (D : Nat) (t : TypeId) (k : IntKind) (x : Int) (hu : Tryz.prog.underlying t = some (.int k)) (hw : (Lit.int k x).wf = true) : Tryz.prog.keyLits (D + 1) t [.int k x] = some [.int k x] := by
  unfold Program.keyLits
  rw [hu]
  simp only [hw, and_self, if_true]
theorem lits_hash (D : Nat) (h : List Int) (hl : h.length = 32) (hb : Bytes h) : Tryz.prog.keyLits (D + 2) 23 (h.map (Value.int .u8)) = some (h.map (Lit.int .u8)) := by
  have e1 : Tryz.prog.cellsOf 23 = 32 := by kernel_rfl
  have e2 : Tryz.prog.cellsOf 5 = 1 := by kernel_rfl
  have e4 : (List.range 32).mapM (fun i => Tryz.prog.keyLits (D + 1) 5 (((h.map (Value.int .u8)).drop (i * 1)).take 1)) = some ((List.range 32).map (fun i => [Lit.int .u8 (h.getD i 0)])) := by
    refine mapM_all _ _ _ (fun i hi => ?_)
    have hi' : i < h.length := by rw [hl]; exact List.mem_range.1 hi
    have e3 : ((h.map (Value.int .u8)).drop (i * 1)).take 1 = [.int .u8 (h.getD i 0)] := by
      rw [Nat.mul_one, List.drop_eq_getElem_cons (by simpa using hi')]
      simp [List.getD, hi']
    rw [e3]
    exact lits_int D _ _ _ Tryz.underlying5 (wf_u8 (hb.getD i))
  unfold Program.keyLits
  rw [Tryz.underlying23]
  simp only [e1, e2]
  rw [if_pos (by rw [List.length_map, hl]), e4, Option.map_some, flat_single, ← hl, map_range_getD]
theorem lits_point (D : Nat) (h : List Int) (ix : Int) (hl : h.length = 32) (hb : Bytes h) (hx : U32 ix) : Tryz.prog.keyLits (D + 3) 97 (ptCells h ix) = some (ptLits h ix) := by
  have e1 : Tryz.prog.cellsOf 97 = 33 := by kernel_rfl
  have e2 : Tryz.prog.cellsOf 23 = 32 := by kernel_rfl
  have e3 : Tryz.prog.cellsOf 24 = 1 := by kernel_rfl
  have d1 : ((ptCells h ix).drop 0).take 32 = h.map (Value.int .u8) := by
    unfold ptCells
    rw [List.drop_zero, List.take_append_of_le_length (by simp [hl]), List.take_of_length_le (by simp [hl])]
  have d2 : ((ptCells h ix).drop 32).take 1 = [.int .u32 ix] := by
    unfold ptCells
    rw [List.drop_append, List.drop_eq_nil_of_le (by simp [hl])]
    simp [hl]
  unfold Program.keyLits
  rw [Tryz.underlying97]
  simp only [e1]
  rw [if_pos ⟨by unfold ptCells; simp [hl], by kernel_rfl⟩]
  simp only [List.mapM_cons, List.mapM_nil, e2, e3, d1, d2, lits_hash (D) h hl hb, lits_int (D + 1) _ _ _ Tryz.underlying24 (wf_u32 hx)]
  simp [ptLits]
theorem ptLits_inj {h h' : List Int} {x x' : Int} (e : ptLits h x = ptLits h' x') (hl : h.length = h'.length) : h = h' ∧ x = x' := by
  unfold ptLits at e
  obtain ⟨e1, e2⟩ := List.append_inj e (by simp [hl])
  refine ⟨?_, by simpa using e2⟩
  have := congrArg (List.map (fun l => match l with | Lit.int _ n => n | _ => 0)) e1
  simpa [List.map_map, Function.comp_def] using this
theorem pt_formed (h : List Int) (ix : Int) (hl : h.length = 32) : (Value.agg (ptCells h ix).toArray).formed Tryz.prog 97 = true := by
  have e1 : Tryz.prog.cellsOf 97 = 33 := by kernel_rfl
  unfold Value.formed
  rw [Tryz.underlying97]
  simp [e1, ptCells, hl]
def keyL (h : List Int) (ix : Int) : Lit := .string (keyBytes (ptLits h ix))
theorem keyL_inj {h h' : List Int} {x x' : Int} (hl : h.length = 32) (hb : Bytes h) (hx : U32 x) (hl' : h'.length = 32) (hb' : Bytes h') (hx' : U32 x') (e : keyL h x = keyL h' x') : h = h' ∧ x = x' := by
  have e1 : keyBytes (ptLits h x) = keyBytes (ptLits h' x') := by
    unfold keyL at e
    exact Lit.string.inj e
  exact ptLits_inj (keyLits_inj (lits_point 0 h x hl hb hx) (lits_point 0 h' x' hl' hb' hx') e1) (by rw [hl, hl'])
theorem pt_equal (W : World) (h h' : List Int) (x x' : Int) (hl : h.length = 32) (hb : Bytes h) (hx : U32 x) (hl' : h'.length = 32) (hb' : Bytes h') (hx' : U32 x') :
    (Op.equalIn 10000 97 (.agg (ptCells h x).toArray) (.agg (ptCells h' x').toArray)).run Tryz.prog W = .ok (decide (h = h' ∧ x = x')) W := by
  have hd := run_equalIn_deep (P := Tryz.prog) 9996 4 97 (by kernel_rfl)
  obtain ⟨r, hr, hiff⟩ := hd W 3 3 (.agg (ptCells h x).toArray) (.agg (ptCells h' x').toArray) _ _ (pt_formed h x hl) (pt_formed h' x' hl') (lits_point 0 h x hl hb hx) (lits_point 0 h' x' hl' hb' hx')
  suffices key : r = decide (h = h' ∧ x = x') by rw [hr, key]
  clear hr hd
  by_cases he : h = h' ∧ x = x'
  · rw [decide_eq_true he]; exact hiff.2 (by rw [he.1, he.2])
  · rw [decide_eq_false he]
    cases r
    · rfl
    · exact absurd (ptLits_inj (hiff.1 rfl) (by rw [hl, hl'])) he
theorem hash_equal (W : World) (h h' : List Int) (hl : h.length = 32) (hb : Bytes h) (hl' : h'.length = 32) (hb' : Bytes h') :
    (Op.equalIn 10000 23 (.agg (h.map (Value.int .u8)).toArray) (.agg (h'.map (Value.int .u8)).toArray)).run Tryz.prog W = .ok (decide (h = h')) W := by
  have e1 : Tryz.prog.cellsOf 23 = 32 := by kernel_rfl
  have fm : ∀ (l : List Int), l.length = 32 → (Value.agg (l.map (Value.int .u8)).toArray).formed Tryz.prog 23 = true := fun l hl => by
    unfold Value.formed
    rw [Tryz.underlying23]
    simp [e1, hl]
  have hd := run_equalIn_deep (P := Tryz.prog) 9996 4 23 (by kernel_rfl)
  obtain ⟨r, hr, hiff⟩ := hd W 2 2 _ _ _ _ (fm h hl) (fm h' hl') (lits_hash 0 h hl hb) (lits_hash 0 h' hl' hb')
  suffices key : r = decide (h = h') by rw [hr, key]
  clear hr hd
  have inj : h.map (Lit.int .u8) = h'.map (Lit.int .u8) → h = h' := fun e => by
    have := congrArg (List.map (fun l => match l with | Lit.int _ n => n | _ => 0)) e
    simpa [List.map_map, Function.comp_def] using this
  by_cases he : h = h'
  · rw [decide_eq_true he]; exact hiff.2 (by rw [he])
  · rw [decide_eq_false he]
    cases r
    · rfl
    · exact absurd (inj (hiff.1 rfl)) he
def zero32 : List Int := List.replicate 32 0
def isEmptyD (d : InD) : Bool := decide (d.hash = zero32 ∧ d.index = 4294967295)
def cbD (d : TxD) : Bool := match d.ins with
  | [x] => isEmptyD x
  | _ => false
theorem wpList_load_on {P : Program} {ops : Array Oper} {rest : List Oper} {o : Oper} {a : Act} {w : World} {Q : Exit → Act → World → Prop} (hw : Region.wanted o (yielded ops a.tmps) = true) (ty : TypeId) (x : Operand) (ho : o.op = .load ty x)
    (g off : Nat) (hx : a.eval x = .pointer (some ⟨g, off, none⟩)) (cs : List Value) (d : TypeDesc) (hg : Row w g off cs)
    (hu : P.underlying ty = some d) (hd : (match d with | .struct _ | .array _ _ => true | _ => false) = true) (hi : (P.info? ty).map (·.size) = some cs.length)
    (h : wpList P ops Q rest (a.put o.dst (.agg cs.toArray)) w) : wpList P ops Q (o :: rest) a w :=
  BigFrame.wpList_want hw fun _ hK => by
    unfold Oper.wp execOp
    simp only [ho, hx, Instr.loadAt, Instr.sureAddr, Sem.run_bind, Sem.run_pure, Result.andThen_ok, run_loadVar_at w g off ty cs d hg hu hd hi]
    exact hK _ _ h
theorem sz_pt (h : List Int) (x : Int) (hl : h.length = 32) : (Tryz.prog.info? 97).map (·.size) = some (ptCells h x).length := by rw [show (ptCells h x).length = 33 by simp [ptCells, hl]]; kernel_rfl
/-- the first input's place, its cells -/
theorem first_pt {w : World} {b o : Nat} {d : InD} {sv wv : Value} (h : Row w b o (inCells d sv wv)) (hl : d.hash.length = 32) : Row w b o (ptCells d.hash d.index) := by
  have := h.take 33
  rw [inCells_point, List.take_append_of_le_length (by rw [pointCells_length _ hl]; exact Nat.le_refl _), List.take_of_length_le (by rw [pointCells_length _ hl]; exact Nat.le_refl _)] at this
  exact this
def validB (v : Int) : Bool := decide (0 ≤ v) && decide (v ≤ 2100000000000000)
def addGo (s : Int) : List Int → Int × Int
  | [] => (s, 0)
  | v :: r => if validB v && validB (s + v) then addGo (s + v) r else (0, 6)
/-- a slice of numbers of one's own -/
structure OwnZ (w W : World) (v : Value) (zs : List Int) : Prop where
  keeps : Keeps w W
  buf : Buf W 1 v zs.length (zs.map (Value.int .i64))
  new : ∀ g, v.ownBlock = some g → w.heap.size ≤ g
theorem OwnZ.nil (w : World) : OwnZ w w (.slice none 0 0) [] := ⟨Keeps.refl _, Buf.nil _ _, fun g h => by simp [Value.ownBlock] at h⟩
theorem OwnZ.step {w W W' : World} {v : Value} {zs : List Int} (h : OwnZ w W v zs) (hk : Keeps W W') : OwnZ w W' v zs := ⟨h.keeps.trans hk, h.buf.keeps hk, h.new⟩
theorem OwnZ.any {w W : World} {v : Value} {zs : List Int} (h : OwnZ w W v zs) : ∃ a cap, v = .slice a zs.length cap := by
  obtain ⟨a, cap, h1, _⟩ := h.buf.any
  exact ⟨a, cap, h1⟩
/-- two inputs spend the same -/
def SamePt (a b : InD) : Prop := a.hash = b.hash ∧ a.index = b.index
def Dup (l : List InD) : Prop := ∃ (i k : Nat) (a b : InD), k < i ∧ l[i]? = some a ∧ l[k]? = some b ∧ SamePt a b
def BadSize (d : TxD) : Prop := ∃ x, d.ins[0]? = some x ∧ (x.script.length < 2 ∨ 100 < x.script.length)
def AnyEmpty (d : TxD) : Prop := ∃ x ∈ d.ins, isEmptyD x = true
/-- what Check says -/
def Chk (d : TxD) (r : Int) : Prop :=
  ((d.ins.length = 0 ∨ d.outs.length = 0) → r = 3) ∧ (¬ (d.ins.length = 0 ∨ d.outs.length = 0) →
    (100000 < (encB d false).length → r = 2) ∧ (¬ 100000 < (encB d false).length →
      ((addGo 0 (d.outs.map (·.value))).2 ≠ 0 → r = 6) ∧ ((addGo 0 (d.outs.map (·.value))).2 = 0 →
        (Dup d.ins → r = 18) ∧ (¬ Dup d.ins →
          (cbD d = true → (BadSize d → r = 3) ∧ (¬ BadSize d → r = 0)) ∧ (cbD d = false → (AnyEmpty d → r = 7) ∧ (¬ AnyEmpty d → r = 0))))))
theorem Chk.fn {d : TxD} {r s : Int} (h : Chk d r) (k : Chk d s) : r = s := by
  unfold Chk at h k
  by_cases a : d.ins.length = 0 ∨ d.outs.length = 0
  · rw [h.1 a, k.1 a]
  · have h := h.2 a; have k := k.2 a
    by_cases b : 100000 < (encB d false).length
    · rw [h.1 b, k.1 b]
    · have h := h.2 b; have k := k.2 b
      by_cases c : (addGo 0 (d.outs.map (·.value))).2 = 0
      · have h := h.2 c; have k := k.2 c
        by_cases e : Dup d.ins
        · rw [h.1 e, k.1 e]
        · have h := h.2 e; have k := k.2 e
          cases f : cbD d
          · have h := h.2 f; have k := k.2 f
            by_cases g : AnyEmpty d
            · rw [h.1 g, k.1 g]
            · rw [h.2 g, k.2 g]
          · have h := h.1 f; have k := k.1 f
            by_cases g : BadSize d
            · rw [h.1 g, k.1 g]
            · rw [h.2 g, k.2 g]
      · rw [h.1 c, k.1 c]
/-- the map D tells of each place whether one of l spends it -/
def Seen (D : DataW Unit) (l : List InD) : Prop := Maps.IsMap D ∧ ∀ (h : List Int) (x : Int), h.length = 32 → Bytes h → U32 x → ∃ b : Bool, D.atKey (keyL h x) (.lit (.bool false)) = .lit (.bool b) ∧ (b = true ↔ ∃ a ∈ l, a.hash = h ∧ a.index = x)
theorem Seen.nil : Seen (.map []) [] := ⟨⟨[], rfl⟩, fun h x _ _ _ => ⟨false, rfl, by simp⟩⟩
theorem Seen.put {D : DataW Unit} {l : List InD} {d : InD} (h : Seen D l) (hl : ∀ a ∈ l, a.Ok) (hd : d.Ok) (hm : Maps.IsMap (D.put (keyL d.hash d.index) (.lit (.bool true)))) : Seen (D.put (keyL d.hash d.index) (.lit (.bool true))) (l ++ [d]) := by
  refine ⟨hm, fun hh x h1 h2 h3 => ?_⟩
  by_cases e : keyL hh x = keyL d.hash d.index
  · refine ⟨true, ?_, ?_⟩
    · rw [e, Maps.atKey_put_same h.1 (by unfold keyL; first | trivial | (unfold WideAt.IsKeyLit; trivial) | simp [WideAt.IsKeyLit])]
    · obtain ⟨e1, e2⟩ := keyL_inj h1 h2 h3 hd.hashLen hd.hash hd.index e
      exact ⟨fun _ => ⟨d, by simp, e1.symm, e2.symm⟩, fun _ => rfl⟩
  · obtain ⟨b, hb, hiff⟩ := h.2 hh x h1 h2 h3
    refine ⟨b, ?_, ?_⟩
    · rw [Maps.atKey_put_other e]; exact hb
    · rw [hiff]
      constructor
      · rintro ⟨a, ha, r⟩; exact ⟨a, by simp [ha], r⟩
      · rintro ⟨a, ha, r1, r2⟩
        rcases List.mem_append.1 ha with ha | ha
        · exact ⟨a, ha, r1, r2⟩
        · simp at ha; subst ha; exact absurd (by rw [r1, r2]) e
variable {B : Nat}
def rdEnd (ver : Int) (second : Bool) (ins2 : List InD) (outs : List OutD) : Rdr TxD := rdBind (rdNum 4) (fun lock =>
      fun r => if (second && !witnessedD ⟨ver, ins2, outs, lock⟩) || decide (0 < r.length) then .error 3 else .ok (⟨ver, ins2, outs, lock⟩, r))
def rdRest3 (ver : Int) (second : Bool) (ins : List InD) (outs : List OutD) : Rdr TxD := rdBind (if second then rdWits ins ins.length else rdOk ins) (fun ins2 => rdEnd ver second ins2 outs)
def rdRest2 (ver : Int) (second : Bool) (ins : List InD) : Rdr TxD := rdBind rdCount (fun m => rdBind (rdMany rdOut m) (fun outs => rdRest3 ver second ins outs))
theorem rdRest_eq (ver : Int) (second : Bool) (n : Nat) : rdRest ver second n = rdBind (rdMany rdIn n) (fun ins => rdRest2 ver second ins) := rfl
theorem tx_e1 {l : List Int} {c : Int} (h : rdNum 4 l = .error c) : rdTx l = .error c := by unfold rdTx; exact rdBind_err h
theorem tx_e2 {l r : List Int} {x c : Int} (h : rdNum 4 l = .ok (x, r)) (h2 : rdCount r = .error c) : rdTx l = .error c := by unfold rdTx; rw [rdBind_ok h]; exact rdBind_err h2
theorem tx_plain {l r r2 : List Int} {x : Int} {n : Nat} (h : rdNum 4 l = .ok (x, r)) (h2 : rdCount r = .ok (n, r2)) (hn : n ≠ 0) : rdTx l = rdRest (toI32 x) false n r2 := by unfold rdTx; rw [rdBind_ok h, rdBind_ok h2, if_neg hn]
theorem tx_e3 {l r r2 : List Int} {x c : Int} (h : rdNum 4 l = .ok (x, r)) (h2 : rdCount r = .ok (0, r2)) (h3 : rdNum 1 r2 = .error c) : rdTx l = .error c := by unfold rdTx; rw [rdBind_ok h, rdBind_ok h2, if_pos rfl]; exact rdBind_err h3
theorem tx_e4 {l r r2 r3 : List Int} {x f : Int} (h : rdNum 4 l = .ok (x, r)) (h2 : rdCount r = .ok (0, r2)) (h3 : rdNum 1 r2 = .ok (f, r3)) (hf : f ≠ 1) : rdTx l = .error 3 := by unfold rdTx; rw [rdBind_ok h, rdBind_ok h2, if_pos rfl, rdBind_ok h3, if_pos hf]; rfl
theorem tx_e5 {l r r2 r3 : List Int} {x c : Int} (h : rdNum 4 l = .ok (x, r)) (h2 : rdCount r = .ok (0, r2)) (h3 : rdNum 1 r2 = .ok (1, r3)) (h4 : rdCount r3 = .error c) : rdTx l = .error c := by unfold rdTx; rw [rdBind_ok h, rdBind_ok h2, if_pos rfl, rdBind_ok h3, if_neg (by simp)]; exact rdBind_err h4
theorem tx_second {l r r2 r3 r4 : List Int} {x : Int} {n : Nat} (h : rdNum 4 l = .ok (x, r)) (h2 : rdCount r = .ok (0, r2)) (h3 : rdNum 1 r2 = .ok (1, r3)) (h4 : rdCount r3 = .ok (n, r4)) : rdTx l = rdRest (toI32 x) true n r4 := by unfold rdTx; rw [rdBind_ok h, rdBind_ok h2, if_pos rfl, rdBind_ok h3, if_neg (by simp), rdBind_ok h4]
theorem rest_e1 {v : Int} {s : Bool} {n : Nat} {l : List Int} {c : Int} (h : rdMany rdIn n l = .error c) : rdRest v s n l = .error c := by rw [rdRest_eq]; exact rdBind_err h
theorem rest_ok1 {v : Int} {s : Bool} {n : Nat} {l r : List Int} {ins : List InD} (h : rdMany rdIn n l = .ok (ins, r)) : rdRest v s n l = rdRest2 v s ins r := by rw [rdRest_eq]; exact rdBind_ok h
theorem rest_e2 {v : Int} {s : Bool} {ins : List InD} {l : List Int} {c : Int} (h : rdCount l = .error c) : rdRest2 v s ins l = .error c := rdBind_err h
theorem rest_e3 {v : Int} {s : Bool} {ins : List InD} {l r : List Int} {m : Nat} {c : Int} (h : rdCount l = .ok (m, r)) (h2 : rdMany rdOut m r = .error c) : rdRest2 v s ins l = .error c := by unfold rdRest2; rw [rdBind_ok h]; exact rdBind_err h2
theorem rest_ok2 {v : Int} {s : Bool} {ins : List InD} {l r r2 : List Int} {m : Nat} {outs : List OutD} (h : rdCount l = .ok (m, r)) (h2 : rdMany rdOut m r = .ok (outs, r2)) : rdRest2 v s ins l = rdRest3 v s ins outs r2 := by unfold rdRest2; rw [rdBind_ok h]; exact rdBind_ok h2
theorem rest_plain {v : Int} {ins : List InD} {outs : List OutD} {l : List Int} : rdRest3 v false ins outs l = rdEnd v false ins outs l := rfl
theorem rest_e4 {v : Int} {ins : List InD} {outs : List OutD} {l : List Int} {c : Int} (h : rdWits ins ins.length l = .error c) : rdRest3 v true ins outs l = .error c := by unfold rdRest3; rw [if_pos rfl]; exact rdBind_err h
theorem rest_ok4 {v : Int} {ins ins2 : List InD} {outs : List OutD} {l r : List Int} (h : rdWits ins ins.length l = .ok (ins2, r)) : rdRest3 v true ins outs l = rdEnd v true ins2 outs r := by unfold rdRest3; rw [if_pos rfl]; exact rdBind_ok h
theorem end_e1 {v : Int} {s : Bool} {ins : List InD} {outs : List OutD} {l : List Int} {c : Int} (h : rdNum 4 l = .error c) : rdEnd v s ins outs l = .error c := rdBind_err h
theorem end_e2 {v : Int} {s : Bool} {ins : List InD} {outs : List OutD} {l r : List Int} {x : Int} (h : rdNum 4 l = .ok (x, r)) (hw : s = true ∧ witnessedD ⟨v, ins, outs, x⟩ = false) : rdEnd v s ins outs l = .error 3 := by unfold rdEnd; rw [rdBind_ok h, if_pos (by simp [hw.1, hw.2])]
theorem end_e3 {v : Int} {s : Bool} {ins : List InD} {outs : List OutD} {l r : List Int} {x : Int} (h : rdNum 4 l = .ok (x, r)) (hr : 0 < r.length) : rdEnd v s ins outs l = .error 3 := by unfold rdEnd; rw [rdBind_ok h, if_pos (by simp [hr])]
theorem end_ok {v : Int} {s : Bool} {ins : List InD} {outs : List OutD} {l r : List Int} {x : Int} (h : rdNum 4 l = .ok (x, r)) (hw : s = true → witnessedD ⟨v, ins, outs, x⟩ = true) (hr : ¬ 0 < r.length) : rdEnd v s ins outs l = .ok (⟨v, ins, outs, x⟩, r) := by
  obtain rfl : r = [] := List.eq_nil_of_length_eq_zero (by omega)
  unfold rdEnd
  rw [rdBind_ok h, if_neg]
  cases s
  · simp
  · simp [hw rfl]
theorem toI32_range {x : Int} (h0 : 0 ≤ x) (h1 : x < 4294967296) : I32 (toI32 x) := by unfold toI32 I32; split <;> omega

/-- fresh blocks up to N, but the row of v -/
def FrN (base N : Nat) (v : Value) (k : Nat) : Prop := base ≤ k ∧ k < N ∧ v.ownBlock ≠ some k
/-- inputs that were read: rows in fresh memory -/
def GotI (base N : Nat) (W : World) (v : Value) (l : List InD) : Prop := ∃ cs ps, RIns (FrN base N v) (FrN base N v) (fun k => v.ownBlock = some k) W v l cs ps ∧ (∀ k, v.ownBlock = some k → base ≤ k ∧ k < N) ∧ N ≤ W.heap.size
def GotO (base N : Nat) (W : World) (v : Value) (l : List OutD) : Prop := ROutsX (fun k => base ≤ k ∧ k < N) (fun k => base ≤ k ∧ k < N) W v l ∧ N ≤ W.heap.size
theorem GotI.any {base N : Nat} {W : World} {v : Value} {l : List InD} (h : GotI base N W v l) : ∃ a cap, v = .slice a l.length cap ∧ l.length ≤ cap ∧ cap ≤ maxLen ∧ (a = none → l.length = 0 ∧ cap = 0) := by
  obtain ⟨cs, ps, h, _⟩ := h
  exact RInsX.any ⟨cs, ps, h⟩
theorem GotO.any {base N : Nat} {W : World} {v : Value} {l : List OutD} (h : GotO base N W v l) : ∃ a cap, v = .slice a l.length cap ∧ l.length ≤ cap ∧ cap ≤ maxLen ∧ (a = none → l.length = 0 ∧ cap = 0) := h.1.any
theorem OwnI.got {S T : Nat → Prop} {base : Nat} {W : World} {v : Value} {l : List InD} {cs : List Value} {ps : List (Value × Value)} (h : OwnI S T base W v l cs ps) (hl : l.length * 96 ≤ 140737488355328) : GotI base W.heap.size W v l :=
  ⟨cs, ps, ⟨h.buf.rd, h.plen, fun i p d hp hd => ⟨(h.each i p d hp hd).1.mono (fun g hg => h.fresh g (.inl hg)) (fun g hg => h.fresh g (.inr hg)), (h.each i p d hp hd).2⟩, hl, fun g e => e⟩, fun k e => ⟨h.new k e, h.buf.lt e⟩, Nat.le_refl _⟩
theorem OwnO.got {S : Nat → Prop} {base : Nat} {W : World} {v : Value} {l : List OutD} {cs : List Value} {ps : List Value} (h : OwnO S base W v l cs ps) (hl : l.length * 32 ≤ 140737488355328) : GotO base W.heap.size W v l :=
  ⟨(h.outs hl).mono (fun g hg => ⟨(h.fresh g hg).1, (h.fresh g hg).2.1⟩) (fun g e => ⟨h.new g e, h.buf.lt e⟩), Nat.le_refl _⟩
theorem GotI.chg {X : Nat → Prop} {base N : Nat} {W W' : World} {v : Value} {l : List InD} (h : GotI base N W v l) (hc : Chg X W W') (hx : ∀ k, X k → k < base ∨ N ≤ k) : GotI base N W' v l := by
  obtain ⟨cs, ps, h, hv, hN⟩ := h
  have hS : ∀ g, FrN base N v g → ¬ X g := fun g hg hxg => by have h1 := hx g hxg; have h2 := hg.1; have h3 := hg.2.1; omega
  refine ⟨cs, ps, ⟨h.rd.chg hc (fun g e hxg => by have h1 := hx g hxg; have h2 := hv g e; omega), h.plen, fun i p d hp hd => ⟨(h.each i p d hp hd).1.chg hc hS hS, (h.each i p d hp hd).2⟩, h.small, h.foot⟩, hv, Nat.le_trans hN hc.size⟩
theorem GotO.chg {X : Nat → Prop} {base N : Nat} {W W' : World} {v : Value} {l : List OutD} (h : GotO base N W v l) (hc : Chg X W W') (hx : ∀ k, X k → k < base ∨ N ≤ k) : GotO base N W' v l :=
  ⟨h.1.chg hc (fun g hg hxg => by have h1 := hx g hxg; have h2 := hg.1; have h3 := hg.2; omega) (fun g hg hxg => by have h1 := hx g hxg; have h2 := hg.1; have h3 := hg.2; omega), Nat.le_trans h.2 hc.size⟩
theorem GotI.up {base N N' : Nat} {W : World} {v : Value} {l : List InD} (h : GotI base N W v l) (hN : N ≤ N') (hN' : N' ≤ W.heap.size) : GotI base N' W v l := by
  obtain ⟨cs, ps, h, hv, _⟩ := h
  have hS : ∀ g, FrN base N v g → FrN base N' v g := fun g hg => ⟨hg.1, Nat.lt_of_lt_of_le hg.2.1 hN, hg.2.2⟩
  exact ⟨cs, ps, ⟨h.rd, h.plen, fun i p d hp hd => ⟨(h.each i p d hp hd).1.mono hS hS, (h.each i p d hp hd).2⟩, h.small, h.foot⟩, fun k e => ⟨(hv k e).1, Nat.lt_of_lt_of_le (hv k e).2 hN⟩, hN'⟩
theorem GotI.low {base b N : Nat} {W : World} {v : Value} {l : List InD} (h : GotI base N W v l) (hb : b ≤ base) : GotI b N W v l := by
  obtain ⟨cs, ps, h, hv, hN⟩ := h
  have hS : ∀ g, FrN base N v g → FrN b N v g := fun g hg => ⟨Nat.le_trans hb hg.1, hg.2⟩
  exact ⟨cs, ps, ⟨h.rd, h.plen, fun i p d hp hd => ⟨(h.each i p d hp hd).1.mono hS hS, (h.each i p d hp hd).2⟩, h.small, h.foot⟩, fun k e => ⟨Nat.le_trans hb (hv k e).1, (hv k e).2⟩, hN⟩
theorem GotO.low {base b N : Nat} {W : World} {v : Value} {l : List OutD} (h : GotO base N W v l) (hb : b ≤ base) : GotO b N W v l :=
  ⟨h.1.mono (fun g hg => ⟨Nat.le_trans hb hg.1, hg.2⟩) (fun g hg => ⟨Nat.le_trans hb hg.1, hg.2⟩), h.2⟩
theorem GotI.ins {base N : Nat} {W : World} {v : Value} {l : List InD} (h : GotI base N W v l) : RInsX (fun k => base ≤ k ∧ k < N) (fun k => base ≤ k ∧ k < N) (fun k => base ≤ k ∧ k < N) W v l := by
  obtain ⟨cs, ps, h, hv, _⟩ := h
  exact (RInsX.mono ⟨cs, ps, h⟩ (fun g hg => ⟨hg.1, hg.2.1⟩) (fun g hg => ⟨hg.1, hg.2.1⟩) (fun g hg => hv g hg))
/-- the element's row -/
theorem GotI.at {base N : Nat} {W : World} {a : Option Addr} {n cap : Nat} {l : List InD} (h : GotI base N W (.slice a n cap) l) (i : Nat) (hi : i < l.length) :
    ∃ g off sv wv d, a = some ⟨g, off, none⟩ ∧ base ≤ g ∧ g < N ∧ l[i]? = some d ∧ Row W g (off + i * 36) (inCells d sv wv) ∧ d.hash.length = 32 := by
  obtain ⟨cs, ps, h, hv, hN⟩ := h
  obtain ⟨g, off, sv, wv, d, rfl, hg, hd, hr, hin⟩ := RInsX.at ⟨cs, ps, h⟩ i hi
  have := hv g rfl
  exact ⟨g, off, sv, wv, d, rfl, this.1, this.2, hd, hr, hin.ok.hashLen⟩
/-- the items of an input written -/
theorem GotI.put {base N : Nat} {W : World} {g off n cap : Nat} {l : List InD} (h : GotI base N W (.slice (some ⟨g, off, none⟩) n cap) l) (i : Nat) (di : InD) (hd : l[i]? = some di) (wv : Value) (ls : List (List Int)) (hw : RLL (FrN base N (.slice (some ⟨g, off, none⟩) n cap)) (FrN base N (.slice (some ⟨g, off, none⟩) n cap)) W wv ls) :
    GotI base N (W.setCell ⟨g, off + i * 36 + 35, none⟩ wv) (.slice (some ⟨g, off, none⟩) n cap) (l.set i { di with wit := ls }) := by
  obtain ⟨cs, ps, h, hv, hN⟩ := h
  have hil : i < l.length := (List.getElem?_eq_some_iff.1 hd).1
  have hp : ps[i]? = some (ps[i]'(by rw [h.plen]; exact hil)) := List.getElem?_eq_getElem (by rw [h.plen]; exact hil)
  obtain ⟨e1, e2⟩ := h.each i _ di hp hd
  have hS : ∀ b, FrN base N (.slice (some ⟨g, off, none⟩) n cap) b → b ≠ g := fun b hb e => hb.2.2 (by rw [e]; rfl)
  refine ⟨_, _, h.put i di hd _ hp 35 (by omega) wv { di with wit := ls } ((ps[i]'(by rw [h.plen]; exact hil)).1, wv) (inCells_set35 _ _ _ _ _ e1.ok.hashLen) ⟨⟨e1.ok.hashLen, e1.ok.hash, e1.ok.index, e1.ok.seq⟩, e1.script, hw⟩ hS hS, hv, by simpa using hN⟩
theorem set_done {xs l : List InD} {i : Nat} {d : InD} (hx : xs.length = i) (hi : i < l.length) : (xs ++ l.drop i).set i d = (xs ++ [d]) ++ l.drop (i + 1) := by
  subst hx
  rw [List.set_append_right _ _ (Nat.le_refl _), Nat.sub_self, List.drop_eq_getElem_cons hi]
  simp only [List.set_cons_zero, List.append_assoc, List.cons_append, List.nil_append]
theorem wp_join2 {P : Program} {c rest : Code} {Q Q0 : Exit → Act → World → Prop} {K1 : Act → World → Prop} {a : Act} {w : World} (ts : List Nat) (J : List Value → World → Prop) (hK1 : ∀ a w, Code.wp P rest Q a w → K1 a w)
    (h2 : (∀ us w', us.length = ts.length → J us w' → K1 (putAll a ts us) w') → Code.wp P c Q0 a w) (h1 : ∀ us w', us.length = ts.length → J us w' → Code.wp P rest Q (putAll a ts us) w') : Code.wp P c Q0 a w :=
  h2 (fun us w' hl hj => hK1 _ _ (h1 us w' hl hj))
end Go.Proofs.YtcodpdpeklammaaGreatDoor
