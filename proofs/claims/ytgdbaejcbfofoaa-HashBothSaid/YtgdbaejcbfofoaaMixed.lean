/- A region that draws its order, by what holds after any of its operations: for regions in which loads, calls and allocations may come in many orders. No condition. -/
import Derived.Test.YtgdbaejcbfofoaaRound
namespace Go.Proofs.Ytgdbaejcbfofoaa
set_option linter.unusedVariables false
set_option linter.unusedSimpArgs false
open Go Go.RowKit
section
variable {F : Fence} {n : Nat} {P : Program} {ops : Array Oper} {md : Region.Mode}
def lowEdges (md : Region.Mode) (ops : Array Oper) : Bool := (List.range ops.size).all fun i => match ops[i]? with | some o => o.after.all fun e => !Region.binds md e || decide (e.on < i) | none => true
theorem lowEdges_at (h : lowEdges md ops = true) {i : Nat} {o : Oper} (hi : ops[i]? = some o) (e : Edge) (he : e ∈ o.after) (hb : Region.binds md e = true) : e.on < i := by
  have hlt := (Array.getElem?_eq_some_iff.1 hi).1
  have := List.all_eq_true.1 h i (List.mem_range.2 hlt)
  rw [hi] at this
  simp only at this
  have h2 := Array.all_eq_true_iff_forall_mem.1 this e he
  simpa [hb] using h2
theorem ready_some (h : lowEdges md ops = true) {listed : Array Bool} (hs : listed.size = ops.size) : ∀ i, i < ops.size → listed.getD i true = false → Region.ready md ops listed ≠ [] := by
  intro i
  induction i using Nat.strongRecOn with
  | ind i ih =>
    intro hi hl
    have ho : ops[i]? = some ops[i] := Array.getElem?_eq_getElem hi
    by_cases hall : ∀ e ∈ ops[i].after, Region.binds md e = true → listed.getD e.on false = true
    · intro e
      have : i ∈ Region.ready md ops listed := mem_ready.2 ⟨hl, ops[i], ho, hall⟩
      rw [e] at this
      cases this
    · have : ∃ e, e ∈ ops[i].after ∧ Region.binds md e = true ∧ listed.getD e.on false = false := by
        refine Classical.byContradiction fun hn => hall fun e he hb => ?_
        cases hx : listed.getD e.on false with
        | true => rfl
        | false => exact absurd ⟨e, he, hb, hx⟩ hn
      obtain ⟨e, he, hb, hx⟩ := this
      have hlt := lowEdges_at h ho e he hb
      exact ih e.on hlt (by omega) (getD_in (by omega) hx)
theorem count_set {listed : Array Bool} {i : Nat} (h : listed.getD i true = false) : (listed.setIfInBounds i true).toList.count false + 1 = listed.toList.count false := by
  have hi : i < listed.size := by
    refine Classical.byContradiction fun hn => ?_
    rw [Array.getD_eq_getD_getElem?, Array.getElem?_eq_none (by omega)] at h
    cases h
  have hx : listed[i] = false := by rw [Array.getD_eq_getD_getElem?, Array.getElem?_eq_getElem hi] at h; exact h
  have hx2 : listed.toList[i]'(by simpa using hi) = false := by simpa using hx
  rw [Array.toList_setIfInBounds, List.count_set (by simpa using hi), hx2]
  have : 0 < listed.toList.count false := List.count_pos_iff.2 (by rw [← hx2]; exact List.getElem_mem _)
  simp only [beq_self_eq_true, if_true, show (true == false) = false from rfl, Bool.false_eq_true, if_false]
  omega
theorem wpAnyIn_inv {Q : Exit → Act → World → Prop} {Inv : Array Bool → Act → World → Prop} (hlow : lowEdges md ops = true)
    (hstep : ∀ listed a w i o, listed.size = ops.size → Inv listed a w → ops[i]? = some o → listed.getD i true = false → (∀ e ∈ o.after, Region.binds md e = true → listed.getD e.on false = true) → wpOpIn F n P ops Q i (Inv (listed.setIfInBounds i true)) a w)
    (hend : ∀ listed a w, listed.size = ops.size → Inv listed a w → (∀ i, i < ops.size → listed.getD i false = true) → Q .normal a w) :
    ∀ (fuel : Nat) (listed : Array Bool) (a : Act) (w : World), listed.size = ops.size → listed.toList.count false ≤ fuel → Inv listed a w → wpAnyIn F n P md ops Q fuel listed a w := by
  have hall : ∀ (listed : Array Bool), listed.size = ops.size → Region.ready md ops listed = [] → ∀ i, i < ops.size → listed.getD i false = true := fun listed hs hr i hi => by
    cases hx : listed.getD i false with
    | true => rfl
    | false => exact absurd hr (ready_some hlow hs i hi (getD_in (by omega) hx))
  intro fuel
  induction fuel with
  | zero =>
    intro listed a w hs hc hI
    have hr : Region.ready md ops listed = [] := by
      cases hr : Region.ready md ops listed with
      | nil => rfl
      | cons j r =>
        obtain ⟨hl, _⟩ := mem_ready.1 (show j ∈ Region.ready md ops listed by rw [hr]; exact List.mem_cons_self)
        have := count_set hl
        omega
    exact ⟨hr, hend _ _ _ hs hI (hall _ hs hr)⟩
  | succ fuel ih =>
    intro listed a w hs hc hI
    refine ⟨fun hr => hend _ _ _ hs hI (hall _ hs hr), fun i hi => ?_⟩
    obtain ⟨hl, o, ho, he⟩ := mem_ready.1 hi
    have := count_set hl
    exact wpOpIn_mono (fun a' w' h' => ih _ a' w' (by simpa using hs) (by omega) h') (hstep _ _ _ _ _ hs hI ho hl he)
theorem wpIn_region_inv {id : Nat} {Q : Exit → Act → World → Prop} {a : Act} {w : World} {Inv : Array Bool → Act → World → Prop} (hm : P.follows .mixedOrders = true) (hlow : lowEdges .any ops = true)
    (h0 : Inv (Array.replicate ops.size false) a { w with drawn := w.drawn + 1 })
    (hstep : ∀ listed a w i o, listed.size = ops.size → Inv listed a w → ops[i]? = some o → listed.getD i true = false → (∀ e ∈ o.after, Region.binds .any e = true → listed.getD e.on false = true) → wpOpIn F n P ops Q i (Inv (listed.setIfInBounds i true)) a w)
    (hend : ∀ listed a w, listed.size = ops.size → Inv listed a w → (∀ i, i < ops.size → listed.getD i false = true) → Q .normal a w) : (Code.region id ops true).wpIn F n P Q a w :=
  wpIn_region_any hm (wpAnyIn_inv hlow hstep hend _ _ _ _ (by simp) (by simp) h0)
variable {l : Nat} {o : Oper} {a : Act} {w w' : World} {i : Nat} {K : Act → World → Prop} {Q : Exit → Act → World → Prop}
theorem opIn_value {v : Value} (hi : ops[i]? = some o) (hg : o.guard = none) (hd : ∀ c, o.op ≠ .defer c) (hrun : (execOp a.eval o).run P w = .ok (.value v) w') (h : K (a.put o.dst v) w') : wpOpIn (Fence.wide.inRound l) n P ops Q i K a w := by
  unfold wpOpIn
  simp only [hi, Region.wanted, hg, if_true]
  refine ⟨fun f _ => trivial, ?_⟩
  rw [show (Fence.wide.inRound l).round = some l from rfl, Oper.semAt_some _ _ _ hd, hrun]
  exact h
theorem opIn_skip (hi : ops[i]? = some o) (hg : o.guard = none) (hd : ∀ c, o.op ≠ .defer c) (hrun : (execOp a.eval o).run P w = .ok .skip w') (h : K (a.put o.dst undef) w') : wpOpIn (Fence.wide.inRound l) n P ops Q i K a w := by
  unfold wpOpIn
  simp only [hi, Region.wanted, hg, if_true]
  refine ⟨fun f _ => trivial, ?_⟩
  rw [show (Fence.wide.inRound l).round = some l from rfl, Oper.semAt_some _ _ _ hd, hrun]
  exact h
theorem opIn_enter {f : FuncId} {args : Array Value} (hi : ops[i]? = some o) (hg : o.guard = none) (hd : ∀ c, o.op ≠ .defer c) (hrun : (execOp a.eval o).run P w = .ok (.enter f args) w)
    (hc : Calls P f args w fun e w' => ∃ v, e = .returned v ∧ K (a.put o.dst v) w') : wpOpIn (Fence.wide.inRound l) n P ops Q i K a w := by
  unfold wpOpIn
  simp only [hi, Region.wanted, hg, if_true]
  refine ⟨fun f _ => trivial, ?_⟩
  rw [show (Fence.wide.inRound l).round = some l from rfl, Oper.semAt_some _ _ _ hd, hrun]
  refine ⟨fun hd => (by cases hd), (CallsIn.inRound l (callsIn_wide.2 hc)).mono ?_⟩
  rintro e w'' ⟨v, rfl, h⟩
  exact h
theorem run_load_row (ty : TypeId) (x : Operand) (ho : o.op = .load ty x) (g off : Nat) (hx : a.eval x = .pointer (some ⟨g, off, none⟩)) (cs : List Value) (d : TypeDesc) (hg : Row w g off cs)
    (hu : P.underlying ty = some d) (hd : (match d with | .struct _ | .array _ _ => true | _ => false) = true) (hi : (P.info? ty).map (·.size) = some cs.length) : (execOp a.eval o).run P w = .ok (.value (.agg cs.toArray)) w := by
  unfold execOp
  simp only [ho, hx, Instr.loadAt, Instr.sureAddr, Sem.run_bind, Sem.run_pure, Result.andThen_ok, run_loadVar_at w g off ty cs d hg hu hd hi]
theorem getD_set_if {listed : Array Bool} {i : Nat} (hi : i < listed.size) (j : Nat) : (listed.setIfInBounds i true).getD j false = if i = j then true else listed.getD j false := by
  simp only [Array.getD_eq_getD_getElem?, Array.getElem?_setIfInBounds]
  split
  · simp [hi]
  · rfl
theorem tmps_put (a : Act) (d : Nat) (v : Value) (j : Nat) : (a.put (some d) v).tmps[j]? = if d = j then (if d < a.tmps.size then some v else none) else a.tmps[j]? := by
  simp only [Act.put, Array.getElem?_setIfInBounds]
end
end Go.Proofs.Ytgdbaejcbfofoaa
