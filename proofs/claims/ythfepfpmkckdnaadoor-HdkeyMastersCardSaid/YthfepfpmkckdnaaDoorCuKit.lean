/- Small laws for the walks on curve: rows, arrays of numbers compared, builds. No condition. -/
import Derived.Test.YthfepfpmkckdnaaDoorNumA
import Derived.Test.YthfepfpmkckdnaaDoorNumW
import Derived.Deep.RegionHeld3
import Derived.Deep.DeepCutAuto
import Derived.DeepKeys4
import Derived.DeepKeys
import Derived.Laws.StructEq
namespace Go.Proofs.YthfepfpmkckdnaaDoor
set_option linter.unusedVariables false
set_option linter.unusedSimpArgs false
open Go Go.RowKit

theorem cu_rows1 {P : Program} {c : Code} {Q : Exit → Act → World → Prop} {a : Act} {w : World} {A : Array Value} {T : TypeId}
    (h : ∀ W, Keeps w W → Row W w.heap.size 0 A.toList → W.heap.size = w.heap.size + 1 → Code.wp P c Q a W) :
    Code.wp P c Q a (w.alloc (.cells A T)) :=
  h _ (nm_keeps_alloc (Keeps.refl w) _) (Row.new (w := w) A.toList A T (by simp)) (by simp)
theorem cu_rows2 {P : Program} {c : Code} {Q : Exit → Act → World → Prop} {a : Act} {w : World} {A B : Array Value} {T U : TypeId}
    (h : ∀ W, Keeps w W → Row W w.heap.size 0 A.toList → Row W (w.heap.size + 1) 0 B.toList → W.heap.size = w.heap.size + 2 → Code.wp P c Q a W) :
    Code.wp P c Q a ((w.alloc (.cells A T)).alloc (.cells B U)) := by
  have h0 := Row.new (w := w) A.toList A T (by simp)
  have h1 := Row.new (w := w.alloc (.cells A T)) B.toList B U (by simp)
  simp only [World.size_alloc] at h1
  exact h _ (nm_keeps_alloc (nm_keeps_alloc (Keeps.refl w) _) _) (h0.alloc _) h1 (by simp)
theorem cu_yields_row {P : Program} {ops : Array Oper} {S : World → Prop} {o : Oper} {a : Act} (hw : Region.wanted o (yielded ops a.tmps) = true) (ty : TypeId) (x : Operand) (ho : o.op = .load ty x)
    (g off : Nat) (hx : a.eval x = .pointer (some ⟨g, off, none⟩)) (cs : List Value) (d : TypeDesc) (hS : ∀ w, S w → Row w g off cs)
    (hu : P.underlying ty = some d) (hd : (match d with | .struct _ | .array _ _ => true | _ => false) = true) (hi : (P.info? ty).map (·.size) = some cs.length) : YieldsIf P ops S o (.agg cs.toArray) a :=
  .inl ⟨hw, fun w hw' => by
    unfold execOp
    simp only [ho, hx, Instr.loadAt, Instr.sureAddr, Sem.run_bind, Sem.run_pure, Result.andThen_ok, run_loadVar_at w g off ty cs d (hS w hw') hu hd hi]⟩
theorem cu_store_rowK {P : Program} {w : World} {o : Oper} {a : Act} {K : Act → World → Prop} {Q : Exit → Act → World → Prop} (T : TypeId) (x y : Operand) (ho : o.op = .store T x y)
    (g off : Nat) (hx : a.eval x = .pointer (some ⟨g, off, none⟩)) (olds cs : List Value) (hy : a.eval y = .agg cs.toArray) (hg : Row w g off olds) (hl : cs.length = olds.length)
    (hi : (P.info? T).map (·.size) = some cs.length) (h1 : ∀ v ∈ cs, v.oneCell' = true)
    (h : ∀ w', Row w' g off cs → Chg (· = g) w w' → K (a.put o.dst undef) w') : o.wp P a w K Q := by
  unfold Oper.wp execOp
  simp only [ho, hx, hy, Instr.storeAt, Instr.sureAddr, Sem.run_bind, Sem.run_pure, Result.andThen_ok, run_storeVar_row w g off T olds cs hg hl hi h1]
  exact h _ (hg.whole hl) (setCells_chg _ _ _ _)
theorem cu_build {P : Program} {ops : Array Oper} {rest : List Oper} {o : Oper} {a : Act} {w : World} {Q : Exit → Act → World → Prop} (hw : Region.wanted o (yielded ops a.tmps) = true) (t : TypeId) (parts : Array (Nat × Operand)) (ho : o.op = .build t parts) (vs : List (Nat × Value)) (hv : (parts.map fun (i, x) => (i, a.eval x)).toList = vs) (out : Array Value)
    (hb : P.built t vs = some out) (h : wpList P ops Q rest (a.put o.dst (.agg out)) w) : wpList P ops Q (o :: rest) a w := by
  subst hv
  refine BigFrame.wpList_want hw fun _ hK => ?_
  unfold Oper.wp execOp
  simp only [ho, Sem.run_bind, run_build w t _ _ hb, Result.andThen_ok]
  exact hK _ _ h
theorem cu_eql {P : Program} {ops : Array Oper} {rest : List Oper} {o : Oper} {a : Act} {w : World} {Q : Exit → Act → World → Prop} (hw : Region.wanted o (yielded ops a.tmps) = true) (t t' : TypeId) (x y : Operand) (ho : o.op = .binOp .eql t x y t') (A B : Array Value) (hx : a.eval x = .agg A) (hy : a.eval y = .agg B) (r : Bool)
    (hE : ∀ W, (Op.equalIn 10000 t (.agg A) (.agg B)).run P W = .ok r W) (hm : P.eqGuardType P.depth t = false) (h : wpList P ops Q rest (a.put o.dst (.bool r)) w) : wpList P ops Q (o :: rest) a w :=
  BigFrame.wpList_want hw fun _ hK => by
    unfold Oper.wp execOp
    simp only [ho, hx, hy]
    simp only [Sem.run_bind, Sem.run_pure, run_eqGuard_agg _ _ _ _ _ _ _ hm, run_eql_struct, hE, Result.andThen_ok]
    exact hK _ _ h
theorem cu_load {P : Program} {ops : Array Oper} {rest : List Oper} {o : Oper} {a : Act} {w : World} {Q : Exit → Act → World → Prop} (hw : Region.wanted o (yielded ops a.tmps) = true) (ty : TypeId) (x : Operand) (ho : o.op = .load ty x)
    (g off : Nat) (hx : a.eval x = .pointer (some ⟨g, off, none⟩)) (cs : List Value) (d : TypeDesc) (hg : Row w g off cs)
    (hu : P.underlying ty = some d) (hd : (match d with | .struct _ | .array _ _ => true | _ => false) = true) (hi : (P.info? ty).map (·.size) = some cs.length)
    (h : wpList P ops Q rest (a.put o.dst (.agg cs.toArray)) w) : wpList P ops Q (o :: rest) a w :=
  BigFrame.wpList_want hw fun _ hK => by
    unfold Oper.wp execOp
    simp only [ho, hx, Instr.loadAt, Instr.sureAddr, Sem.run_bind, Sem.run_pure, Result.andThen_ok, run_loadVar_at w g off ty cs d hg hu hd hi]
    exact hK _ _ h
theorem cu_run_load {P : Program} {o : Oper} {a : Act} {w : World} (ty : TypeId) (x : Operand) (ho : o.op = .load ty x) (g off : Nat) (hx : a.eval x = .pointer (some ⟨g, off, none⟩)) (cs : List Value) (d : TypeDesc) (hg : Row w g off cs)
    (hu : P.underlying ty = some d) (hd : (match d with | .struct _ | .array _ _ => true | _ => false) = true) (hi : (P.info? ty).map (·.size) = some cs.length) : (execOp a.eval o).run P w = .ok (.value (.agg cs.toArray)) w := by
  unfold execOp
  simp only [ho, hx, Instr.loadAt, Instr.sureAddr, Sem.run_bind, Sem.run_pure, Result.andThen_ok, run_loadVar_at w g off ty cs d hg hu hd hi]
theorem cu_run_build {P : Program} {o : Oper} {a : Act} {w : World} (t : TypeId) (parts : List (Nat × Operand)) (ho : o.op = .build t parts.toArray) (vs : List (Nat × Value)) (hv : (parts.map fun (i, x) => (i, a.eval x)) = vs) (out : Array Value)
    (hb : P.built t vs = some out) : (execOp a.eval o).run P w = .ok (.value (.agg out)) w := by
  subst hv
  have h2 : P.built t (parts.toArray.map fun (i, x) => (i, a.eval x)).toList = some out := by rw [List.map_toArray]; exact hb
  unfold execOp
  simp only [ho, Sem.run_bind, run_build w t _ _ h2, Result.andThen_ok, Sem.run_pure]
theorem cu_run_neq {P : Program} {o : Oper} {a : Act} {w : World} (t t' : TypeId) (x y : Operand) (ho : o.op = .binOp .neq t x y t') (A B : Array Value) (hx : a.eval x = .agg A) (hy : a.eval y = .agg B) (r : Bool)
    (hE : ∀ W, (Op.equalIn 10000 t (.agg A) (.agg B)).run P W = .ok r W) (hm : P.eqGuardType P.depth t = false) : (execOp a.eval o).run P w = .ok (.value (.bool (!r))) w := by
  unfold execOp
  simp only [ho, hx, hy]
  simp only [Sem.run_bind, Sem.run_pure, run_eqGuard_agg _ _ _ _ _ _ _ hm, run_neq_struct, hE, Result.andThen_ok]
theorem cu_mapM_all {α β : Type} (f : α → Option β) (g : α → β) : ∀ (L : List α), (∀ i ∈ L, f i = some (g i)) → L.mapM f = some (L.map g)
  | [], _ => rfl
  | a :: L, h => by
    rw [List.mapM_cons, h a (by simp), cu_mapM_all f g L (fun i hi => h i (by simp [hi]))]
    rfl
theorem cu_flat_single {α β : Type} (f : α → β) : ∀ (L : List α), (L.map (fun i => [f i])).flatten = L.map f
  | [] => rfl
  | a :: L => by simp [cu_flat_single f L]
theorem cu_map_range (k : IntKind) (h : List Int) : (List.range h.length).map (fun i => Lit.int k (h.getD i 0)) = h.map (Lit.int k) := by
  apply List.ext_getElem
  · simp
  · intro i h1 h2
    have h3 : i < h.length := by simpa using h2
    simp [List.getD, h3]
/-- the literals of an array of numbers -/
theorem arr_lits (D : Nat) (t e : TypeId) (n : Nat) (k : IntKind) (hu : Tryd.prog.underlying t = some (.array n e)) (he : Tryd.prog.underlying e = some (.int k)) (e1 : Tryd.prog.cellsOf t = n) (e2 : Tryd.prog.cellsOf e = 1) (xs : List Int) (hl : xs.length = n) (hw : ∀ x ∈ xs, (Lit.int k x).wf = true) :
    Tryd.prog.keyLits (D + 2) t (xs.map (Value.int k)) = some (xs.map (Lit.int k)) := by
  have e4 : (List.range n).mapM (fun i => Tryd.prog.keyLits (D + 1) e (((xs.map (Value.int k)).drop (i * 1)).take 1)) = some ((List.range n).map (fun i => [Lit.int k (xs.getD i 0)])) := by
    refine cu_mapM_all _ _ _ (fun i hi => ?_)
    have hi' : i < xs.length := by rw [hl]; exact List.mem_range.1 hi
    have e3 : ((xs.map (Value.int k)).drop (i * 1)).take 1 = [.int k (xs.getD i 0)] := by
      rw [Nat.mul_one, List.drop_eq_getElem_cons (by simpa using hi')]
      simp [List.getD, hi']
    have hx : xs.getD i 0 ∈ xs := by
      have : xs.getD i 0 = xs[i] := by simp [List.getD, hi']
      rw [this]; exact List.getElem_mem hi'
    rw [e3]
    unfold Program.keyLits
    rw [he]
    simp only [hw _ hx, and_self, if_true]
  unfold Program.keyLits
  rw [hu]
  simp only [e1, e2]
  rw [if_pos (by rw [List.length_map, hl]), e4, Option.map_some, cu_flat_single, ← hl, cu_map_range]
theorem arr_lits_inj {k : IntKind} {h h' : List Int} (e : h.map (Lit.int k) = h'.map (Lit.int k)) : h = h' := by
  have := congrArg (List.map (fun l => match l with | Lit.int _ n => n | _ => 0)) e
  simpa [List.map_map, Function.comp_def] using this
theorem arr_equal (W : World) (t e : TypeId) (n : Nat) (k : IntKind) (hk : Tryd.prog.keyTypeAt 4 t = true) (hu : Tryd.prog.underlying t = some (.array n e)) (he : Tryd.prog.underlying e = some (.int k)) (e1 : Tryd.prog.cellsOf t = n) (e2 : Tryd.prog.cellsOf e = 1) (xs ys : List Int) (hl : xs.length = n) (hw : ∀ x ∈ xs, (Lit.int k x).wf = true) (hl' : ys.length = n) (hw' : ∀ x ∈ ys, (Lit.int k x).wf = true) :
    (Op.equalIn 10000 t (.agg (xs.map (Value.int k)).toArray) (.agg (ys.map (Value.int k)).toArray)).run Tryd.prog W = .ok (decide (xs = ys)) W := by
  have fm : ∀ (l : List Int), l.length = n → (Value.agg (l.map (Value.int k)).toArray).formed Tryd.prog t = true := fun l hl => by
    unfold Value.formed
    rw [hu]
    simp [e1, hl]
  have hd := run_equalIn_deep (P := Tryd.prog) 9996 4 t hk
  obtain ⟨r, hr, hiff⟩ := hd W 2 2 _ _ _ _ (fm xs hl) (fm ys hl') (arr_lits 0 t e n k hu he e1 e2 xs hl hw) (arr_lits 0 t e n k hu he e1 e2 ys hl' hw')
  suffices key : r = decide (xs = ys) by rw [hr, key]
  clear hr hd
  by_cases hxy : xs = ys
  · rw [decide_eq_true hxy]; exact hiff.2 (by rw [hxy])
  · rw [decide_eq_false hxy]
    cases r
    · rfl
    · exact absurd (arr_lits_inj (hiff.1 rfl)) hxy
theorem wf_u64 {x : Int} (h0 : 0 ≤ x) (h1 : x < 18446744073709551616) : (Lit.int .u64 x).wf = true := by
  unfold Lit.wf
  rw [Bool.and_eq_true, decide_eq_true_eq, decide_eq_true_eq]
  exact ⟨show (0 : Int) ≤ x from h0, show x ≤ (18446744073709551615 : Int) by omega⟩
theorem wf_u32' {x : Int} (h0 : 0 ≤ x) (h1 : x < 4294967296) : (Lit.int .u32 x).wf = true := by
  unfold Lit.wf
  rw [Bool.and_eq_true, decide_eq_true_eq, decide_eq_true_eq]
  exact ⟨show (0 : Int) ≤ x from h0, show x ≤ (4294967295 : Int) by omega⟩
/-- below 2^256 -/
def U256 (x : Int) : Prop := 0 ≤ x ∧ x < 115792089237316195423570985008687907853269984665640564039457584007913129639936
theorem be_u256 {l : List Int} (h : Bytes l) (hl : l.length = 32) : U256 (be l) := by
  have := be_range h
  rw [hl] at this
  exact ⟨this.1, Int.lt_of_lt_of_le this.2 (by decide)⟩
theorem words_wf (x : Int) : ∀ y ∈ words x, (Lit.int .u64 y).wf = true := fun y hy => by
  obtain ⟨i, hi, e⟩ := List.getElem_of_mem hy
  have := words_range x i (by rw [words_length] at hi; exact hi)
  have e2 : (words x).getD i 0 = y := by simp [List.getD, hi, e]
  rw [e2] at this
  exact wf_u64 this.1 this.2
theorem words_inj {x y : Int} (hx : U256 x) (hy : U256 y) (h : words x = words y) : x = y := by
  unfold words at h
  unfold U256 at hx hy
  simp only [List.cons.injEq, and_true] at h
  omega
end Go.Proofs.YthfepfpmkckdnaaDoor
