/- A region that draws its order, inside a round of a range over a function: its first operations quiet (in a class of worlds), then the last ones as a list. (QTail, in the round's fence.) And a whole array loaded in such a region. No condition. | A region that draws its order, by what holds after any of its operations: for regions in which loads, calls and allocations may come in many orders. No condition. | block.Merkle: the region of its inner loop's body that draws its order. No condition. -/
import Derived.Test.YtclhjlkgmeofcaaDoorGA9
import Derived.Test.YtclhjlkgmeofcaaDoorGA0
import Derived.OrdersIn
import Derived.TacticsInMore
import Derived.RangeFuncCalls
import Derived.Lib.QuietBelow
import Derived.Sort.QuietThIn
import Derived.Test.YtclhjlkgmeofcaaDoorGD8
import Derived.Test.YtclhjlkgmeofcaaDoorGD1
namespace Go.Proofs.YtclhjlkgmeofcaaDoor
set_option linter.unusedVariables false
set_option linter.unusedSimpArgs false
open Go Go.RowKit
section
variable {P : Program} {ops : Array Oper} {md : Region.Mode} {C : World → Prop} {l n : Nat}
def noDefer (ops : Array Oper) : Bool := ops.all fun o => match o.op with | .defer _ => false | _ => true
theorem noDefer_at (h : noDefer ops = true) {i : Nat} {o : Oper} (hi : ops[i]? = some o) : ∀ c, o.op ≠ .defer c := by
  intro c e
  obtain ⟨hlt, rfl⟩ := Array.getElem?_eq_some_iff.1 hi
  have := Array.all_eq_true.1 h i hlt
  rw [e] at this
  cases this
theorem wpIn_of_quiet_round {o : Oper} {a : Act} {K : Act → Prop} {K' : Act → World → Prop} {Q' : Exit → Act → World → Prop} {w : World} (hd : ∀ c, o.op ≠ .defer c) (hw : C w) (h : ∀ a w', C w' → K a → K' a w')
    (hh : o.quiet P a C K) : o.wpIn (Fence.wide.inRound l) n P a w K' Q' := by
  obtain ⟨v, h1, h2⟩ := hh
  have h3 := h1 w hw
  unfold Oper.quietAt at h3
  unfold Oper.wpIn
  refine ⟨fun f _ => trivial, ?_⟩
  rw [show (Fence.wide.inRound l).round = some l from rfl, Oper.semAt_some _ _ _ hd]
  generalize (execOp a.eval o).run P w = r at *
  cases r with
  | ok x w' =>
    cases x <;> simp only [Oper.quietUpon] at h3 <;> simp only [Oper.uponIn]
    case value u =>
      obtain ⟨e1, e2⟩ := h3
      rw [e1, e2]
      exact h _ _ hw h2
    case skip =>
      obtain ⟨e1, e2⟩ := h3
      rw [e1, ← e2]
      exact h _ _ hw h2
    case enter f args =>
      obtain ⟨e1, hc⟩ := h3
      rw [e1]
      exact ⟨fun hd => (by cases hd), (CallsIn.inRound l (callsIn_wide.2 hc)).mono fun e w'' ⟨he, hw''⟩ => by subst he; exact h _ _ hw'' h2⟩
  | halt x w' => simp only [Oper.quietUpon] at h3
theorem wpOpIn_of_qOp_round {i : Nat} {a : Act} {K : Act → Prop} {K' : Act → World → Prop} {Q' : Exit → Act → World → Prop} {w : World} (hnd : noDefer ops = true) (hC : C w) (h : ∀ a w', C w' → K a → K' a w')
    (hh : qOp P ops C i K a) : wpOpIn (Fence.wide.inRound l) n P ops Q' i K' a w := by
  unfold qOp at hh
  unfold wpOpIn
  split
  · rename_i ho; simp only [ho] at hh; exact h _ _ hC hh
  · rename_i o ho
    simp only [ho] at hh
    split
    · rename_i hw; simp only [hw, if_true] at hh; exact wpIn_of_quiet_round (noDefer_at hnd ho) hC h hh
    · rename_i hw; simp only [hw] at hh; exact ⟨fun f _ => trivial, h _ _ hC hh⟩
theorem wpAnyIn_of_qhead {k g : Nat} {L : Array Bool → Act → Prop} {Q' : Exit → Act → World → Prop} (hnd : noDefer ops = true) (hL : ∀ listed a w, C w → L listed a → wpAnyIn (Fence.wide.inRound l) n P md ops Q' g listed a w) :
    ∀ (f : Nat) (listed : Array Bool) (a : Act) (w : World), C w → wpAnyQL P md ops C k L f listed a → wpAnyIn (Fence.wide.inRound l) n P md ops Q' (f + g) listed a w
  | 0, listed, a, w, hw, h => by rw [Nat.zero_add]; exact hL _ _ _ hw h
  | f + 1, listed, a, w, hw, h => by
    rw [show f + 1 + g = (f + g) + 1 by omega]
    exact ⟨fun h0 => absurd h0 h.1, fun i hi => wpOpIn_of_qOp_round hnd hw (fun a' w' hw' h' => wpAnyIn_of_qhead hnd hL f _ a' w' hw' h') (h.2 i hi).2⟩
theorem wpAnyIn_of_seq {F : Fence} {Q' : Exit → Act → World → Prop} : ∀ (lo : List Oper) (k : Nat) (listed : Array Bool) (a : Act) (w : World), (∀ j, lo[j]? = ops[k + j]?) →
    Region.seqB md ops lo.length k listed = true → wpListIn F n P ops Q' lo a w → wpAnyIn F n P md ops Q' lo.length listed a w
  | [], _, _, _, _, _, hB, h => ⟨by simpa [Region.seqB] using hB, h⟩
  | o :: lo, k, listed, a, w, hl, hB, h => by
    have h0 : ops[k]? = some o := by simpa using (hl 0).symm
    simp only [List.length_cons, Region.seqB, Bool.and_eq_true, decide_eq_true_eq] at hB
    refine ⟨fun h1 => (by rw [hB.1] at h1; cases h1), fun i hi => ?_⟩
    rw [hB.1] at hi
    have hik : i = k := by simpa using hi
    subst hik
    have hw : wpOpIn F n P ops Q' i (wpListIn F n P ops Q' lo) a w := by unfold wpOpIn; simp only [h0]; exact h
    exact wpOpIn_mono (fun a' w' h' => wpAnyIn_of_seq lo (i + 1) _ a' w' (fun j => by have := hl (j + 1); simpa [Nat.add_assoc, Nat.add_comm 1 j] using this) hB.2 h') hw
theorem wpIn_round_tail {id : Nat} {Q : Exit → Act → World → Prop} {a : Act} {w : World} {lo : List Oper} (k : Nat) (hm : P.follows .mixedOrders = true) (hB : Region.lexTailB .any lo.toArray k = true) (hnd : noDefer lo.toArray = true) (hC : C { w with drawn := w.drawn + 1 })
    (h : wpQuiet P lo.toArray C (fun a' => ∀ w', C w' → wpListIn (Fence.wide.inRound l) n P lo.toArray Q (lo.drop k) a' w') (lo.take k) a) : (Code.region id lo.toArray true).wpIn (Fence.wide.inRound l) n P Q a w := by
  simp only [Region.lexTailB, Bool.and_eq_true, decide_eq_true_eq] at hB
  obtain ⟨⟨⟨⟨hsel, hn⟩, hs⟩, hc⟩, hlex⟩ := hB
  have hn' : k < lo.length := by simpa using hn
  have htl : (lo.take k).length = k := by simp; omega
  have hdl : (lo.drop k).length = lo.toArray.size - k := by simp
  have inv0 : HeadInv .any lo.toArray k (Array.replicate lo.toArray.size false) :=
    ⟨by simp, fun j oj _ hl => (by rw [getD_replicate_false] at hl; cases hl), fun t _ ht => getD_in (by simpa using ht) (getD_replicate_false _ _)⟩
  have H := wpAnyQL_lex (md := .any) (g := lo.toArray.size - k) hsel hs hc hn (lo.take k) 0 _ a (fun j hj => by
    have hj' : j < k := by rw [htl] at hj; exact hj
    simp [hj']) (by simpa using htl) inv0 (by rw [htl]; exact hlex) h
  refine wpIn_region_any hm ?_
  have := wpAnyIn_of_qhead (l := l) (n := n) (Q' := Q) (g := lo.toArray.size - k) hnd (fun listed a' w' hw' hL => by
    have := wpAnyIn_of_seq (F := Fence.wide.inRound l) (n := n) (md := .any) (Q' := Q) (lo.drop k) k listed a' w' (fun j => by simp [List.getElem?_drop]) (by rw [hdl]; exact hL.1) (hL.2 w' hw')
    rwa [hdl] at this) _ _ _ { w with drawn := w.drawn + 1 } hC H
  rw [htl, show k + (lo.toArray.size - k) = lo.toArray.size by omega] at this
  exact this
/-- worlds behind draws -/
theorem wpIn_round_quiet {id : Nat} {Q : Exit → Act → World → Prop} {a : Act} {w : World} {lo : List Oper} (k : Nat) (hm : P.follows .mixedOrders = true) (hB : Region.lexTailB .any lo.toArray k = true) (hnd : noDefer lo.toArray = true)
    (h : wpQuiet P lo.toArray (fun w' => ∃ m, w' = w.drewN m) (fun a' => ∀ w', (∃ m, w' = w.drewN m) → wpListIn (Fence.wide.inRound l) n P lo.toArray Q (lo.drop k) a' w') (lo.take k) a) : (Code.region id lo.toArray true).wpIn (Fence.wide.inRound l) n P Q a w :=
  wpIn_round_tail k hm hB hnd ⟨1, rfl⟩ h
/-- worlds in which all that was there is kept -/
theorem wpIn_round_below {id : Nat} {Q : Exit → Act → World → Prop} {a : Act} {w : World} {lo : List Oper} (k : Nat) (hm : P.follows .mixedOrders = true) (hB : Region.lexTailB .any lo.toArray k = true) (hnd : noDefer lo.toArray = true)
    (h : wpQuiet P lo.toArray (fun w' => ∃ p : Regrown, w' = Go.Sort.grow (redrawn w p.d) p.os) (fun a' => ∀ w', (∃ p : Regrown, w' = Go.Sort.grow (redrawn w p.d) p.os) → wpListIn (Fence.wide.inRound l) n P lo.toArray Q (lo.drop k) a' w') (lo.take k) a) : (Code.region id lo.toArray true).wpIn (Fence.wide.inRound l) n P Q a w :=
  wpIn_round_tail k hm hB hnd ⟨⟨w.drawn + 1, #[]⟩, by rw [Go.Sort.grow_empty]; rfl⟩ h
/-- a whole array, or struct, loaded in a region that only reads -/
theorem quiet_load_at {a : Act} {o : Oper} {K : Act → Prop} (ty : TypeId) (x : Operand) (ho : o.op = .load ty x) (g off : Nat) (hx : a.eval x = .pointer (some ⟨g, off, none⟩)) (cs : List Value) (d : TypeDesc) (hg : ∀ W, C W → Row W g off cs)
    (hu : P.underlying ty = some d) (hd : (match d with | .struct _ | .array _ _ => true | _ => false) = true) (hi : (P.info? ty).map (·.size) = some cs.length) (hk : K (a.put o.dst (.agg cs.toArray))) : o.quiet P a C K :=
  ⟨.agg cs.toArray, fun w hw => by
    have h2 : (execOp a.eval o).run P w = .ok (.value (.agg cs.toArray)) w := by
      unfold execOp
      simp only [ho, hx, Instr.loadAt, Instr.sureAddr, Sem.run_bind, Sem.run_pure, Result.andThen_ok, run_loadVar_at w g off ty cs d (hg w hw) hu hd hi]
    unfold Oper.quietAt
    rw [h2]
    exact ⟨rfl, rfl⟩, hk⟩
end
end Go.Proofs.YtclhjlkgmeofcaaDoor
namespace Go.Proofs.YtclhjlkgmeofcaaDoor
set_option linter.unusedVariables false
set_option linter.unusedSimpArgs false
open Go Go.RowKit
section
variable {F : Fence} {n : Nat} {P : Program} {ops : Array Oper} {md : Region.Mode}
def lowEdges (md : Region.Mode) (ops : Array Oper) : Bool := (List.range ops.size).all fun i => match ops[i]? with | some o => o.after.all fun e => !Region.binds md e || decide (e.on < i) | none => true
theorem lowEdges_at (h : lowEdges md ops = true) {i : Nat} {o : Oper} (hi : ops[i]? = some o) (e : Edge) (he : e ∈ o.after) (hb : Region.binds md e = true) : e.on < i := by
  have hlt := (Array.getElem?_eq_some_iff.1 hi).1
  have := List.all_eq_true.1 h i (List.mem_range.2 hlt)
  rw [hi] at this
  simp only at this
  have h2 := Array.all_eq_true_iff_forall_mem.1 this e he
  simpa [hb] using h2
theorem ready_some (h : lowEdges md ops = true) {listed : Array Bool} (hs : listed.size = ops.size) : ∀ i, i < ops.size → listed.getD i true = false → Region.ready md ops listed ≠ [] := by
  intro i
  induction i using Nat.strongRecOn with
  | ind i ih =>
    intro hi hl
    have ho : ops[i]? = some ops[i] := Array.getElem?_eq_getElem hi
    by_cases hall : ∀ e ∈ ops[i].after, Region.binds md e = true → listed.getD e.on false = true
    · intro e
      have : i ∈ Region.ready md ops listed := mem_ready.2 ⟨hl, ops[i], ho, hall⟩
      rw [e] at this
      cases this
    · have : ∃ e, e ∈ ops[i].after ∧ Region.binds md e = true ∧ listed.getD e.on false = false := by
        refine Classical.byContradiction fun hn => hall fun e he hb => ?_
        cases hx : listed.getD e.on false with
        | true => rfl
        | false => exact absurd ⟨e, he, hb, hx⟩ hn
      obtain ⟨e, he, hb, hx⟩ := this
      have hlt := lowEdges_at h ho e he hb
      exact ih e.on hlt (by omega) (getD_in (by omega) hx)
theorem count_set {listed : Array Bool} {i : Nat} (h : listed.getD i true = false) : (listed.setIfInBounds i true).toList.count false + 1 = listed.toList.count false := by
  have hi : i < listed.size := by
    refine Classical.byContradiction fun hn => ?_
    rw [Array.getD_eq_getD_getElem?, Array.getElem?_eq_none (by omega)] at h
    cases h
  have hx : listed[i] = false := by rw [Array.getD_eq_getD_getElem?, Array.getElem?_eq_getElem hi] at h; exact h
  have hx2 : listed.toList[i]'(by simpa using hi) = false := by simpa using hx
  rw [Array.toList_setIfInBounds, List.count_set (by simpa using hi), hx2]
  have : 0 < listed.toList.count false := List.count_pos_iff.2 (by rw [← hx2]; exact List.getElem_mem _)
  simp only [beq_self_eq_true, if_true, show (true == false) = false from rfl, Bool.false_eq_true, if_false]
  omega
theorem wpAnyIn_inv {Q : Exit → Act → World → Prop} {Inv : Array Bool → Act → World → Prop} (hlow : lowEdges md ops = true)
    (hstep : ∀ listed a w i o, listed.size = ops.size → Inv listed a w → ops[i]? = some o → listed.getD i true = false → (∀ e ∈ o.after, Region.binds md e = true → listed.getD e.on false = true) → wpOpIn F n P ops Q i (Inv (listed.setIfInBounds i true)) a w)
    (hend : ∀ listed a w, listed.size = ops.size → Inv listed a w → (∀ i, i < ops.size → listed.getD i false = true) → Q .normal a w) :
    ∀ (fuel : Nat) (listed : Array Bool) (a : Act) (w : World), listed.size = ops.size → listed.toList.count false ≤ fuel → Inv listed a w → wpAnyIn F n P md ops Q fuel listed a w := by
  have hall : ∀ (listed : Array Bool), listed.size = ops.size → Region.ready md ops listed = [] → ∀ i, i < ops.size → listed.getD i false = true := fun listed hs hr i hi => by
    cases hx : listed.getD i false with
    | true => rfl
    | false => exact absurd hr (ready_some hlow hs i hi (getD_in (by omega) hx))
  intro fuel
  induction fuel with
  | zero =>
    intro listed a w hs hc hI
    have hr : Region.ready md ops listed = [] := by
      cases hr : Region.ready md ops listed with
      | nil => rfl
      | cons j r =>
        obtain ⟨hl, _⟩ := mem_ready.1 (show j ∈ Region.ready md ops listed by rw [hr]; exact List.mem_cons_self)
        have := count_set hl
        omega
    exact ⟨hr, hend _ _ _ hs hI (hall _ hs hr)⟩
  | succ fuel ih =>
    intro listed a w hs hc hI
    refine ⟨fun hr => hend _ _ _ hs hI (hall _ hs hr), fun i hi => ?_⟩
    obtain ⟨hl, o, ho, he⟩ := mem_ready.1 hi
    have := count_set hl
    exact wpOpIn_mono (fun a' w' h' => ih _ a' w' (by simpa using hs) (by omega) h') (hstep _ _ _ _ _ hs hI ho hl he)
theorem wpIn_region_inv {id : Nat} {Q : Exit → Act → World → Prop} {a : Act} {w : World} {Inv : Array Bool → Act → World → Prop} (hm : P.follows .mixedOrders = true) (hlow : lowEdges .any ops = true)
    (h0 : Inv (Array.replicate ops.size false) a { w with drawn := w.drawn + 1 })
    (hstep : ∀ listed a w i o, listed.size = ops.size → Inv listed a w → ops[i]? = some o → listed.getD i true = false → (∀ e ∈ o.after, Region.binds .any e = true → listed.getD e.on false = true) → wpOpIn F n P ops Q i (Inv (listed.setIfInBounds i true)) a w)
    (hend : ∀ listed a w, listed.size = ops.size → Inv listed a w → (∀ i, i < ops.size → listed.getD i false = true) → Q .normal a w) : (Code.region id ops true).wpIn F n P Q a w :=
  wpIn_region_any hm (wpAnyIn_inv hlow hstep hend _ _ _ _ (by simp) (by simp) h0)
variable {l : Nat} {o : Oper} {a : Act} {w w' : World} {i : Nat} {K : Act → World → Prop} {Q : Exit → Act → World → Prop}
theorem opIn_value {v : Value} (hi : ops[i]? = some o) (hg : o.guard = none) (hd : ∀ c, o.op ≠ .defer c) (hrun : (execOp a.eval o).run P w = .ok (.value v) w') (h : K (a.put o.dst v) w') : wpOpIn (Fence.wide.inRound l) n P ops Q i K a w := by
  unfold wpOpIn
  simp only [hi, Region.wanted, hg, if_true]
  refine ⟨fun f _ => trivial, ?_⟩
  rw [show (Fence.wide.inRound l).round = some l from rfl, Oper.semAt_some _ _ _ hd, hrun]
  exact h
theorem opIn_skip (hi : ops[i]? = some o) (hg : o.guard = none) (hd : ∀ c, o.op ≠ .defer c) (hrun : (execOp a.eval o).run P w = .ok .skip w') (h : K (a.put o.dst undef) w') : wpOpIn (Fence.wide.inRound l) n P ops Q i K a w := by
  unfold wpOpIn
  simp only [hi, Region.wanted, hg, if_true]
  refine ⟨fun f _ => trivial, ?_⟩
  rw [show (Fence.wide.inRound l).round = some l from rfl, Oper.semAt_some _ _ _ hd, hrun]
  exact h
theorem opIn_enter {f : FuncId} {args : Array Value} (hi : ops[i]? = some o) (hg : o.guard = none) (hd : ∀ c, o.op ≠ .defer c) (hrun : (execOp a.eval o).run P w = .ok (.enter f args) w)
    (hc : Calls P f args w fun e w' => ∃ v, e = .returned v ∧ K (a.put o.dst v) w') : wpOpIn (Fence.wide.inRound l) n P ops Q i K a w := by
  unfold wpOpIn
  simp only [hi, Region.wanted, hg, if_true]
  refine ⟨fun f _ => trivial, ?_⟩
  rw [show (Fence.wide.inRound l).round = some l from rfl, Oper.semAt_some _ _ _ hd, hrun]
  refine ⟨fun hd => (by cases hd), (CallsIn.inRound l (callsIn_wide.2 hc)).mono ?_⟩
  rintro e w'' ⟨v, rfl, h⟩
  exact h
theorem mx_run_load_row (ty : TypeId) (x : Operand) (ho : o.op = .load ty x) (g off : Nat) (hx : a.eval x = .pointer (some ⟨g, off, none⟩)) (cs : List Value) (d : TypeDesc) (hg : Row w g off cs)
    (hu : P.underlying ty = some d) (hd : (match d with | .struct _ | .array _ _ => true | _ => false) = true) (hi : (P.info? ty).map (·.size) = some cs.length) : (execOp a.eval o).run P w = .ok (.value (.agg cs.toArray)) w := by
  unfold execOp
  simp only [ho, hx, Instr.loadAt, Instr.sureAddr, Sem.run_bind, Sem.run_pure, Result.andThen_ok, run_loadVar_at w g off ty cs d hg hu hd hi]
theorem getD_set_if {listed : Array Bool} {i : Nat} (hi : i < listed.size) (j : Nat) : (listed.setIfInBounds i true).getD j false = if i = j then true else listed.getD j false := by
  simp only [Array.getD_eq_getD_getElem?, Array.getElem?_setIfInBounds]
  split
  · simp [hi]
  · rfl
theorem tmps_put (a : Act) (d : Nat) (v : Value) (j : Nat) : (a.put (some d) v).tmps[j]? = if d = j then (if d < a.tmps.size then some v else none) else a.tmps[j]? := by
  simp only [Act.put, Array.getElem?_setIfInBounds]
end
end Go.Proofs.YtclhjlkgmeofcaaDoor
namespace Go.Proofs.YtclhjlkgmeofcaaDoor
set_option linter.unusedVariables false
set_option linter.unusedSimpArgs false
open Go Go.RowKit

/-- the region's i-th operation, unguarded -/
def IsOp (ops : Array Oper) (i : Nat) (op : Op) (dst : Option Tmp) : Prop := ∃ o, ops[i]? = some o ∧ o.op = op ∧ o.dst = dst ∧ o.guard = none
theorem ev_tmp {a : Act} {i : Nat} {v : Value} (h : a.tmps[i]? = some v) : a.eval (.tmp i) = v := by
  show a.tmps.getD i undef = v
  rw [Array.getD_eq_getD_getElem?, h]; rfl
theorem put_same {a : Act} {d : Nat} {v : Value} (h : d < a.tmps.size) : (a.put (some d) v).tmps[d]? = some v := by rw [tmps_put, if_pos rfl, if_pos h]
theorem put_other {a : Act} {d j : Nat} {v : Value} (h : d ≠ j) : (a.put (some d) v).tmps[j]? = a.tmps[j]? := by rw [tmps_put, if_neg h]
theorem put_size {a : Act} {d : Option Tmp} {v : Value} : (a.put d v).tmps.size = a.tmps.size := by cases d <;> simp [Act.put]
theorem put_defers {a : Act} {d : Option Tmp} {v : Value} : (a.put d v).defers = a.defers := by cases d <;> simp [Act.put]
theorem agg_hs (w : World) : (isAgg 22).run Tryd.prog w = .ok false w := by
  unfold isAgg
  rw [Sem.run_bind, run_underlying Tryd.underlying22 w]
  rfl
theorem run_load_hs {w : World} {o : Oper} {a : Act} {x : Operand} (ho : o.op = .load 22 x) {q : Nat} {v : Value} (hx : a.eval x = .pointer (some ⟨q, 0, none⟩)) (hc : w.cell? ⟨q, 0, none⟩ = some v) : (execOp a.eval o).run Tryd.prog w = .ok (.value v) w := by
  unfold execOp
  simp only [ho, hx, Instr.loadAt, Instr.sureAddr, Sem.run_bind, Sem.run_pure, Result.andThen_ok]
  have h : (loadVar 22 ⟨q, 0, none⟩).run Tryd.prog w = .ok v w := by
    simp [loadVar, Sem.run_bind, agg_hs, hc, go_sem]
  rw [h]; rfl
theorem sz_hs : (Tryd.prog.info? 22).map (·.size) = some 1 := by kernel_rfl
theorem run_store_hs {w : World} {o : Oper} {a : Act} {x y : Operand} (ho : o.op = .store 22 x y) {q : Nat} {v u : Value} (hx : a.eval x = .pointer (some ⟨q, 0, none⟩)) (hy : a.eval y = u) (hc : w.cell? ⟨q, 0, none⟩ = some v) (hf : w.frozen? ⟨q, 0, none⟩ = false) (hu : u.oneCell' = true) :
    (execOp a.eval o).run Tryd.prog w = .ok .skip (w.setCell ⟨q, 0, none⟩ u) := by
  unfold execOp
  simp only [ho, hx, hy, Instr.storeAt, Instr.sureAddr, Sem.run_bind, Sem.run_pure, Result.andThen_ok]
  have hst := run_storeCells_cells (P := Tryd.prog) q 0 [u] 0 w (fun j hj => by
      obtain rfl : j = 0 := by simpa using hj
      rw [hc]; rfl) (fun j hj => by
      obtain rfl : j = 0 := by simpa using hj
      exact hf) (fun y hy => by rw [List.mem_singleton.1 hy]; exact hu)
  have hcs : u.cells = #[u] := by cases u <;> simp_all [Value.oneCell', Value.cells]
  have h : (storeVar 22 ⟨q, 0, none⟩ u).run Tryd.prog w = .ok () (w.setCell ⟨q, 0, none⟩ u) := by
    cases hq : Tryd.prog.info? 22 with
    | none => have := sz_hs; rw [hq] at this; cases this
    | some i =>
      have hi : i.size = 1 := by have := sz_hs; rw [hq] at this; simpa using this
      simp [storeVar, hcs, sizeOf, typeInfo, hq, hi, hst, World.setCells]
  rw [h]; rfl
theorem hs_one {w : World} {size n : Nat} {v : Value} {xs : List Value} (h : Buf w size v n xs) : v.oneCell' = true := by
  obtain ⟨a, cap, rfl, _⟩ := h.any
  rfl
theorem r11_round {l n id : Nat} {ops : Array Oper} {Q : Exit → Act → World → Prop} {a : Act} {wr W2 : World} {q s : Nat} {v wv : Value} {L : List (List Int)} {zs : List Int}
    (hsz : ops.size = 5) (o0 : IsOp ops 0 (.load 22 (.tmp 4)) (some 30)) (o1 : IsOp ops 1 (.call { callee := .value (.func 31), args := #[.tmp 6], argTypes := #[76] }) (some 31))
    (o2 : IsOp ops 2 (.buildSlice 22 1 #[(0, .tmp 31)]) (some 32)) (o3 : IsOp ops 3 (.call { callee := .builtin .append, args := #[.tmp 30, .tmp 32], argTypes := #[22, 22] }) (some 33))
    (o4 : IsOp ops 4 (.store 22 (.tmp 4) (.tmp 33)) none)
    (r00 : Region.ready .any ops #[false, false, false, false, false] = [0, 1]) (r10 : Region.ready .any ops #[true, false, false, false, false] = [1]) (r01 : Region.ready .any ops #[false, true, false, false, false] = [0, 2])
    (r11 : Region.ready .any ops #[true, true, false, false, false] = [2]) (r012 : Region.ready .any ops #[false, true, true, false, false] = [0]) (r3 : Region.ready .any ops #[true, true, true, false, false] = [3])
    (r4 : Region.ready .any ops #[true, true, true, true, false] = [4]) (r5 : Region.ready .any ops #[true, true, true, true, true] = [])
    (hmix : Tryd.prog.follows .mixedOrders = true)
    (h4 : a.tmps[4]? = some (.pointer (some ⟨q, 0, none⟩))) (h6 : a.tmps[6]? = some (.pointer (some ⟨s, 0, none⟩))) (hts : a.tmps.size = 38)
    (hm : MI wr W2 q v L) (hs : SumAt W2 s 0 wv zs) (hzl : zs.length < 576460752303423488) (hL : L.length < 4398046511104)
    (hQ : ∀ v' a' W', MI wr W' q v' (L ++ [dsha zs]) → Chg (fun k => k = q ∨ v.ownBlock = some k) W2 W' → a'.defers = a.defers → Q .normal a' W') :
    (Code.region id ops true).wpIn (Fence.wide.inRound l) n Tryd.prog Q a W2 := by
  obtain ⟨p0, e0, f0, d0, g0⟩ := o0
  obtain ⟨p1, e1, f1, d1, g1⟩ := o1
  obtain ⟨p2, e2, f2, d2, g2⟩ := o2
  obtain ⟨p3, e3, f3, d3, g3⟩ := o3
  obtain ⟨p4, e4, f4, d4, g4⟩ := o4
  have hH := dsha_length zs
  have hB := dsha_bytes zs
  have htw : ∀ W, Keeps W2 W → Calls Tryd.prog 31 #[.pointer (some ⟨s, 0, none⟩)] W fun e w' => e = .returned (.agg ((dsha zs).map (Value.int .u8)).toArray) ∧ Keeps W w' := fun W hk => twice_any s 0 wv zs W (hs.keeps hk) hzl
  generalize dsha zs = H at *
  -- the first operation
  have op0 : ∀ (K : Act → World → Prop) (a' : Act) (W' : World), Keeps W2 W' → a'.tmps[4]? = some (.pointer (some ⟨q, 0, none⟩)) → K (a'.put (some 30) v) W' → wpOpIn (Fence.wide.inRound l) n Tryd.prog ops Q 0 K a' W' := by
    intro K a' W' hk ha h
    refine opIn_value e0 g0 (fun c e => by rw [f0] at e; cases e) (run_load_hs f0 (ev_tmp ha) (by have := ((hm.step hk).cell 0 _ rfl).1; simpa using this)) ?_
    rw [d0]; exact h
  have op1 : ∀ (K : Act → World → Prop) (a' : Act) (W' : World), Keeps W2 W' → a'.tmps[6]? = some (.pointer (some ⟨s, 0, none⟩)) → (∀ W'', Keeps W' W'' → K (a'.put (some 31) (.agg (H.map (Value.int .u8)).toArray)) W'') → wpOpIn (Fence.wide.inRound l) n Tryd.prog ops Q 1 K a' W' := by
    intro K a' W' hk ha h
    refine opIn_enter e1 g1 (fun c e => by rw [f1] at e; cases e) (f := 31) (args := #[.pointer (some ⟨s, 0, none⟩)]) ?_ ((htw W' hk).mono ?_)
    · unfold execOp
      simp only [f1]
      go_simp
    · rintro e w' ⟨rfl, hk'⟩
      exact ⟨_, rfl, by rw [d1]; exact h _ hk'⟩
  have op2 : ∀ (K : Act → World → Prop) (a' : Act) (W' : World), a'.tmps[31]? = some (.agg (H.map (Value.int .u8)).toArray) → (∀ W'' c, Keeps W' W'' → Row W'' W'.heap.size 0 (H.map (Value.int .u8)) → K (a'.put (some 32) (.slice (some ⟨W'.heap.size, 0, none⟩) 1 c)) W'') → wpOpIn (Fence.wide.inRound l) n Tryd.prog ops Q 2 K a' W' := by
    intro K a' W' ha h
    have hev := ev_tmp ha
    refine opIn_value e2 g2 (fun c e => by rw [f2] at e; cases e) (v := .slice (some ⟨W'.heap.size, 0, none⟩) 1 1) (w' := W'.alloc (.cells (H.map (Value.int .u8)).toArray 24)) ?_ ?_
    · unfold execOp
      simp only [f2, hev, List.map_toArray, List.map_cons, List.map_nil, Array.map_map]
      go_simp
      congr 2
      have hf := fold_set 0 (H.map (Value.int .u8)) 0 [] z32 [] (by rw [List.length_map, hH]; rfl) rfl
      simp only [Nat.zero_add, List.nil_append, List.append_nil, z32] at hf
      exact hf
    · rw [d2]; exact h _ _ (keeps_alloc (Keeps.refl _) _) (Row.new _ _ _ rfl)
  have op34 : ∀ (a' : Act) (W' : World) (x c : Nat), Keeps W2 W' → a'.tmps.size = 38 → a'.defers = a.defers → a'.tmps[4]? = some (.pointer (some ⟨q, 0, none⟩)) → a'.tmps[30]? = some v → a'.tmps[32]? = some (.slice (some ⟨x, 0, none⟩) 1 c) → Row W' x 0 (H.map (Value.int .u8)) →
      wpAnyIn (Fence.wide.inRound l) n Tryd.prog .any ops Q 2 #[true, true, true, false, false] a' W' := by
    intro a' W' x c hk ht hdf ha4 ha30 ha32 hrx
    refine wpAnyIn_all r3 (by simp) (fun i hi => ?_)
    obtain rfl : i = 3 := by simpa using hi
    obtain ⟨i0, z0, hi0, hz0, hz1, hz2, hz3⟩ := info2_any hash_info hash_zero
    obtain ⟨v', w', hr, hb, hc, hsn, -⟩ := run_append_buf (P := Tryd.prog) W' 22 22 p3.type 24 i0 z0 32 32 Tryd.underlying22 hi0 hz0 hz1 hz2 hz3 (by decide) v L.length (hCells L) (hm.step hk).buf (.slice (some ⟨x, 0, none⟩) 1 c) 1 (H.map (Value.int .u8))
      (Src.row Tryd.underlying22 (by simp [hH]) hrx (int_oneCell H)) (by unfold maxLen; omega) (by omega)
    refine opIn_value e3 g3 (fun c e => by rw [f3] at e; cases e) (v := v') (w' := w') ?_ ?_
    · have h1 := ev_tmp ha30
      have h2 := ev_tmp ha32
      simp [execOp, f3, resolve, invoke, builtin, h1, h2, hr, Result.andThen]
    · rw [d3]
      have hmp := (hm.step hk).put (Keeps.refl _) hH hB hb hc hsn
      have hqc : w'.cell? ⟨q, 0, none⟩ = some v ∧ w'.frozen? ⟨q, 0, none⟩ = false := by
        have := ((hm.step hk).cell.chg hc (fun e => by have := (hm.step hk).new q e; omega)) 0 _ rfl
        simpa using this
      refine wpAnyIn_all (listed := #[true, true, true, true, false]) r4 (by simp) (fun i hi => ?_)
      obtain rfl : i = 4 := by simpa using hi
      refine opIn_skip e4 g4 (fun c e => by rw [f4] at e; cases e) (w' := w'.setCell ⟨q, 0, none⟩ v') (run_store_hs f4 (ev_tmp (by rw [put_other (by omega)]; exact ha4)) (ev_tmp (put_same (by omega))) hqc.1 hqc.2 (hs_one hb)) ?_
      rw [d4]
      refine wpAnyIn_done (listed := #[true, true, true, true, true]) r5 ?_ _
      refine hQ v' _ _ hmp ?_ (by rw [put_defers, put_defers]; exact hdf)
      refine (hk.chg _).trans ((hc.mono (fun k _ e => .inr e)).trans (Chg.setCell (Chg.refl _ _) (.inr (.inl rfl)) _))
  refine wpIn_region_any hmix ?_
  rw [hsz]
  have hkd : Keeps W2 { W2 with drawn := W2.drawn + 1 } := keeps_drew1 (Keeps.refl W2)
  generalize ({ W2 with drawn := W2.drawn + 1 } : World) = WD at *
  refine wpAnyIn_all (listed := #[false, false, false, false, false]) r00 (by simp) (fun i hi => ?_)
  rcases (by simpa using hi : i = 0 ∨ i = 1) with rfl | rfl
  · refine op0 _ a WD hkd h4 ?_
    refine wpAnyIn_all (listed := #[true, false, false, false, false]) r10 (by simp) (fun i hi => ?_)
    obtain rfl : i = 1 := by simpa using hi
    refine op1 _ _ WD hkd (by rw [put_other (by omega)]; exact h6) (fun W3 hk3 => ?_)
    refine wpAnyIn_all (listed := #[true, true, false, false, false]) r11 (by simp) (fun i hi => ?_)
    obtain rfl : i = 2 := by simpa using hi
    refine op2 _ _ W3 (put_same (by rw [put_size]; omega)) (fun W4 c hk4 hr4 => ?_)
    refine op34 _ W4 W3.heap.size c (hkd.trans (hk3.trans hk4)) (by simp only [put_size]; exact hts) (by simp only [put_defers]) ?_ ?_ (put_same (by simp only [put_size]; omega)) hr4
    · rw [put_other (by omega), put_other (by omega), put_other (by omega)]; exact h4
    · rw [put_other (by omega), put_other (by omega)]; exact put_same (by omega)
  · refine op1 _ a WD hkd h6 (fun W3 hk3 => ?_)
    refine wpAnyIn_all (listed := #[false, true, false, false, false]) r01 (by simp) (fun i hi => ?_)
    rcases (by simpa using hi : i = 0 ∨ i = 2) with rfl | rfl
    · refine op0 _ _ W3 (hkd.trans hk3) (by rw [put_other (by omega)]; exact h4) ?_
      refine wpAnyIn_all (listed := #[true, true, false, false, false]) r11 (by simp) (fun i hi => ?_)
      obtain rfl : i = 2 := by simpa using hi
      refine op2 _ _ W3 (by rw [put_other (by omega)]; exact put_same (by omega)) (fun W4 c hk4 hr4 => ?_)
      refine op34 _ W4 W3.heap.size c (hkd.trans (hk3.trans hk4)) (by simp only [put_size]; exact hts) (by simp only [put_defers]) ?_ ?_ (put_same (by simp only [put_size]; omega)) hr4
      · rw [put_other (by omega), put_other (by omega), put_other (by omega)]; exact h4
      · rw [put_other (by omega)]; exact put_same (by rw [put_size]; omega)
    · refine op2 _ _ W3 (put_same (by omega)) (fun W4 c hk4 hr4 => ?_)
      refine wpAnyIn_all (listed := #[false, true, true, false, false]) r012 (by simp) (fun i hi => ?_)
      obtain rfl : i = 0 := by simpa using hi
      refine op0 _ _ W4 (hkd.trans (hk3.trans hk4)) (by rw [put_other (by omega), put_other (by omega)]; exact h4) ?_
      refine op34 _ W4 W3.heap.size c (hkd.trans (hk3.trans hk4)) (by simp only [put_size]; exact hts) (by simp only [put_defers]) ?_ (put_same (by simp only [put_size]; omega)) ?_ hr4
      · rw [put_other (by omega), put_other (by omega), put_other (by omega)]; exact h4
      · rw [put_other (by omega)]; exact put_same (by rw [put_size]; omega)
end Go.Proofs.YtclhjlkgmeofcaaDoor
