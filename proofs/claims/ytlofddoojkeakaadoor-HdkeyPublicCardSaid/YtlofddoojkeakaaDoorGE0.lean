/- hash.Ripemd's two lines of a block: loads, calls and allocations in whatever order. | Parts of hash.Ripemd: the two tables of lines, slices.Reverse at eight bytes, the tail turned. -/
import Derived.Test.YtlofddoojkeakaaDoorGD8
import Derived.Test.YtlofddoojkeakaaDoorGD9
import Derived.Test.YtlofddoojkeakaaDoorGA2
import Derived.Great.BuildSlice
import Derived.BigRegion
namespace Go.Proofs.YtlofddoojkeakaaDoor.Rip
set_option linter.unusedVariables false
set_option linter.unusedSimpArgs false
open Go Go.RowKit

def ptr (x : Nat) : Value := .pointer (some ⟨x, 0, none⟩)
def zero5 : List Value := List.replicate 5 (Value.int .u32 0)
/-- what holds after any of the region's operations -/
structure InvR (Wb : World) (T₀ : Array Value) (V : Nat → Value) (us vs : List Value) (listed : Array Bool) (a : Act) (w : World) : Prop where
  dfr : a.defers = []
  tsz : a.tmps.size = T₀.size
  base : ∀ j, j ≠ 10 → j ≠ 11 → (j < 73 ∨ 80 < j) → a.tmps[j]? = T₀[j]?
  val : ∀ i, i < 8 → listed.getD i false = true → a.tmps[73 + i]? = some (V i)
  keeps : Keeps Wb w
  one : listed.getD 8 false = true → ∃ x, a.tmps[10]? = some (ptr x) ∧ Wb.heap.size ≤ x ∧ x < w.heap.size ∧ Row w x 0 (if listed.getD 10 false then us else zero5)
  two : listed.getD 9 false = true → ∃ y, a.tmps[11]? = some (ptr y) ∧ Wb.heap.size ≤ y ∧ y < w.heap.size ∧ Row w y 0 (if listed.getD 11 false then vs else zero5)
  ord1 : listed.getD 10 false = true → listed.getD 8 false = true
  ord2 : listed.getD 11 false = true → listed.getD 9 false = true
  ne : ∀ x, listed.getD 8 false = true → listed.getD 9 false = true → a.tmps[10]? = some (ptr x) → a.tmps[11]? ≠ some (ptr x)
variable {Wb : World} {T₀ : Array Value} {V : Nat → Value} {us vs : List Value} {listed : Array Bool} {a : Act} {w w' : World}
theorem InvR.valStep (h : InvR Wb T₀ V us vs listed a w) (hs : listed.size = 12) (hT : 81 ≤ T₀.size) (i : Nat) (hi : i < 8) (hk : Keeps w w') : InvR Wb T₀ V us vs (listed.setIfInBounds i true) (a.put (some (73 + i)) (V i)) w' := by
  have hg := fun j => getD_set_if (listed := listed) (i := i) (by omega) j
  have g8 : (listed.setIfInBounds i true).getD 8 false = listed.getD 8 false := by rw [hg, if_neg (by omega)]
  have g9 : (listed.setIfInBounds i true).getD 9 false = listed.getD 9 false := by rw [hg, if_neg (by omega)]
  have g10 : (listed.setIfInBounds i true).getD 10 false = listed.getD 10 false := by rw [hg, if_neg (by omega)]
  have g11 : (listed.setIfInBounds i true).getD 11 false = listed.getD 11 false := by rw [hg, if_neg (by omega)]
  have ht := fun j => tmps_put a (73 + i) (V i) j
  have htz := h.tsz
  refine ⟨h.dfr, by simp [Act.put, h.tsz], ?_, ?_, h.keeps.trans hk, ?_, ?_, by rw [g8, g10]; exact h.ord1, by rw [g9, g11]; exact h.ord2, ?_⟩
  · intro j h1 h2 h3
    rw [ht, if_neg (by omega)]
    exact h.base j h1 h2 h3
  · intro j hj hl
    rw [ht]
    by_cases e : i = j
    · subst e; rw [if_pos rfl, if_pos (by omega)]
    · rw [if_neg (by omega)]
      rw [hg, if_neg e] at hl
      exact h.val j hj hl
  · rw [g8, g10, ht, if_neg (by omega)]
    intro hl
    obtain ⟨x, h1, h2, h3, h4⟩ := h.one hl
    exact ⟨x, h1, h2, Nat.lt_of_lt_of_le h3 hk.size, h4.keeps hk⟩
  · rw [g9, g11, ht, if_neg (by omega)]
    intro hl
    obtain ⟨x, h1, h2, h3, h4⟩ := h.two hl
    exact ⟨x, h1, h2, Nat.lt_of_lt_of_le h3 hk.size, h4.keeps hk⟩
  · intro x
    rw [g8, g9, ht, ht, if_neg (by omega), if_neg (by omega)]
    exact h.ne x
theorem ptr_inj {x y : Nat} (h : some (ptr x) = some (ptr y)) : x = y := by
  simp only [ptr, Option.some.injEq, Value.pointer.injEq, Addr.mk.injEq, and_true] at h
  exact h
theorem InvR.alloc1 (h : InvR Wb T₀ V us vs listed a w) (hs : listed.size = 12) (hT : 81 ≤ T₀.size) (h8 : listed.getD 8 false = false) (T : TypeId) : InvR Wb T₀ V us vs (listed.setIfInBounds 8 true) (a.put (some 10) (ptr w.heap.size)) (w.alloc (.cells zero5.toArray T)) := by
  have hg := fun j => getD_set_if (listed := listed) (i := 8) (by omega) j
  have g9 : (listed.setIfInBounds 8 true).getD 9 false = listed.getD 9 false := by rw [hg, if_neg (by omega)]
  have g10 : (listed.setIfInBounds 8 true).getD 10 false = listed.getD 10 false := by rw [hg, if_neg (by omega)]
  have g11 : (listed.setIfInBounds 8 true).getD 11 false = listed.getD 11 false := by rw [hg, if_neg (by omega)]
  have ht := fun j => tmps_put a 10 (ptr w.heap.size) j
  have htz := h.tsz
  have h10 : listed.getD 10 false = false := by
    cases hx : listed.getD 10 false with
    | false => rfl
    | true => rw [h.ord1 hx] at h8; cases h8
  have hk : Keeps w (w.alloc (.cells zero5.toArray T)) := Below.alloc (Below.refl _ _) (Nat.le_refl _) _
  refine ⟨h.dfr, by simp [Act.put, h.tsz], ?_, ?_, h.keeps.trans hk, ?_, ?_, by rw [hg 8, if_pos rfl]; exact fun _ => rfl, by rw [g9, g11]; exact h.ord2, ?_⟩
  · intro j h1 h2 h3
    rw [ht, if_neg (by omega)]
    exact h.base j h1 h2 h3
  · intro j hj hl
    rw [hg, if_neg (by omega)] at hl
    rw [ht, if_neg (by omega)]
    exact h.val j hj hl
  · intro _
    refine ⟨w.heap.size, by rw [ht, if_pos rfl, if_pos (by omega)], h.keeps.size, by simp, ?_⟩
    rw [g10, h10]
    exact Row.new _ _ _ rfl
  · rw [g9, g11, ht, if_neg (by omega)]
    intro hl
    obtain ⟨x, h1, h2, h3, h4⟩ := h.two hl
    exact ⟨x, h1, h2, Nat.lt_of_lt_of_le h3 hk.size, h4.keeps hk⟩
  · intro x _ h9 hx
    rw [hg, if_neg (by omega)] at h9
    rw [ht, if_pos rfl, if_pos (by omega)] at hx
    rw [ht, if_neg (by omega)]
    obtain ⟨y, h1, h2, h3, h4⟩ := h.two h9
    have := ptr_inj hx
    rw [h1]
    intro e
    have := ptr_inj e
    omega
theorem InvR.alloc2 (h : InvR Wb T₀ V us vs listed a w) (hs : listed.size = 12) (hT : 81 ≤ T₀.size) (h9 : listed.getD 9 false = false) (T : TypeId) : InvR Wb T₀ V us vs (listed.setIfInBounds 9 true) (a.put (some 11) (ptr w.heap.size)) (w.alloc (.cells zero5.toArray T)) := by
  have hg := fun j => getD_set_if (listed := listed) (i := 9) (by omega) j
  have g8 : (listed.setIfInBounds 9 true).getD 8 false = listed.getD 8 false := by rw [hg, if_neg (by omega)]
  have g10 : (listed.setIfInBounds 9 true).getD 10 false = listed.getD 10 false := by rw [hg, if_neg (by omega)]
  have g11 : (listed.setIfInBounds 9 true).getD 11 false = listed.getD 11 false := by rw [hg, if_neg (by omega)]
  have ht := fun j => tmps_put a 11 (ptr w.heap.size) j
  have htz := h.tsz
  have h11 : listed.getD 11 false = false := by
    cases hx : listed.getD 11 false with
    | false => rfl
    | true => rw [h.ord2 hx] at h9; cases h9
  have hk : Keeps w (w.alloc (.cells zero5.toArray T)) := Below.alloc (Below.refl _ _) (Nat.le_refl _) _
  refine ⟨h.dfr, by simp [Act.put, h.tsz], ?_, ?_, h.keeps.trans hk, ?_, ?_, by rw [g8, g10]; exact h.ord1, by rw [hg 9, if_pos rfl]; exact fun _ => rfl, ?_⟩
  · intro j h1 h2 h3
    rw [ht, if_neg (by omega)]
    exact h.base j h1 h2 h3
  · intro j hj hl
    rw [hg, if_neg (by omega)] at hl
    rw [ht, if_neg (by omega)]
    exact h.val j hj hl
  · rw [g8, g10, ht, if_neg (by omega)]
    intro hl
    obtain ⟨x, h1, h2, h3, h4⟩ := h.one hl
    exact ⟨x, h1, h2, Nat.lt_of_lt_of_le h3 hk.size, h4.keeps hk⟩
  · intro _
    refine ⟨w.heap.size, by rw [ht, if_pos rfl, if_pos (by omega)], h.keeps.size, by simp, ?_⟩
    rw [g11, h11]
    exact Row.new _ _ _ rfl
  · intro x h8 _ hx
    rw [hg, if_neg (by omega)] at h8
    rw [ht, if_neg (by omega)] at hx
    rw [ht, if_pos rfl, if_pos (by omega)]
    obtain ⟨y, h1, h2, h3, h4⟩ := h.one h8
    rw [h1] at hx
    have := ptr_inj hx
    intro e
    have := ptr_inj e
    omega
theorem InvR.store1 (h : InvR Wb T₀ V us vs listed a w) (hs : listed.size = 12) (h8 : listed.getD 8 false = true) (x : Nat) (hx : a.tmps[10]? = some (ptr x)) (hr : Row w' x 0 us) (hc : Chg (· = x) w w') : InvR Wb T₀ V us vs (listed.setIfInBounds 10 true) (a.put none undef) w' := by
  have hg := fun j => getD_set_if (listed := listed) (i := 10) (by omega) j
  have g8 : (listed.setIfInBounds 10 true).getD 8 false = listed.getD 8 false := by rw [hg, if_neg (by omega)]
  have g9 : (listed.setIfInBounds 10 true).getD 9 false = listed.getD 9 false := by rw [hg, if_neg (by omega)]
  have g11 : (listed.setIfInBounds 10 true).getD 11 false = listed.getD 11 false := by rw [hg, if_neg (by omega)]
  obtain ⟨x', e1, e2, e3, _⟩ := h.one h8
  rw [hx] at e1
  obtain rfl := ptr_inj e1
  refine ⟨h.dfr, h.tsz, h.base, ?_, Below.trans h.keeps (hc.below h.keeps.size (fun k hk e => by omega)), ?_, ?_, by rw [g8]; exact fun _ => h8, by rw [g9, g11]; exact h.ord2, ?_⟩
  · intro j hj hl
    rw [hg, if_neg (by omega)] at hl
    exact h.val j hj hl
  · intro _
    refine ⟨x, hx, e2, Nat.lt_of_lt_of_le e3 hc.size, ?_⟩
    rw [hg, if_pos rfl]
    exact hr
  · rw [g9, g11]
    intro hl
    obtain ⟨y, h1, h2, h3, h4⟩ := h.two hl
    refine ⟨y, h1, h2, Nat.lt_of_lt_of_le h3 hc.size, h4.chg hc (fun e => ?_)⟩
    have e' : y = x := e
    subst e'
    exact h.ne y h8 hl hx h1
  · intro z
    rw [g8, g9]
    exact h.ne z
theorem InvR.store2 (h : InvR Wb T₀ V us vs listed a w) (hs : listed.size = 12) (h9 : listed.getD 9 false = true) (x : Nat) (hx : a.tmps[11]? = some (ptr x)) (hr : Row w' x 0 vs) (hc : Chg (· = x) w w') : InvR Wb T₀ V us vs (listed.setIfInBounds 11 true) (a.put none undef) w' := by
  have hg := fun j => getD_set_if (listed := listed) (i := 11) (by omega) j
  have g8 : (listed.setIfInBounds 11 true).getD 8 false = listed.getD 8 false := by rw [hg, if_neg (by omega)]
  have g9 : (listed.setIfInBounds 11 true).getD 9 false = listed.getD 9 false := by rw [hg, if_neg (by omega)]
  have g10 : (listed.setIfInBounds 11 true).getD 10 false = listed.getD 10 false := by rw [hg, if_neg (by omega)]
  obtain ⟨x', e1, e2, e3, _⟩ := h.two h9
  rw [hx] at e1
  obtain rfl := ptr_inj e1
  refine ⟨h.dfr, h.tsz, h.base, ?_, Below.trans h.keeps (hc.below h.keeps.size (fun k hk e => by omega)), ?_, ?_, by rw [g8, g10]; exact h.ord1, by rw [g9]; exact fun _ => h9, ?_⟩
  · intro j hj hl
    rw [hg, if_neg (by omega)] at hl
    exact h.val j hj hl
  · rw [g8, g10]
    intro hl
    obtain ⟨y, h1, h2, h3, h4⟩ := h.one hl
    refine ⟨y, h1, h2, Nat.lt_of_lt_of_le h3 hc.size, h4.chg hc (fun e => ?_)⟩
    have e' : y = x := e
    subst e'
    exact h.ne y hl h9 h1 hx
  · intro _
    refine ⟨x, hx, e2, Nat.lt_of_lt_of_le e3 hc.size, ?_⟩
    rw [hg, if_pos rfl]
    exact hr
  · intro z
    rw [g8, g9]
    exact h.ne z
theorem InvR.start (T₀ : Array Value) (V : Nat → Value) (us vs : List Value) (w : World) : InvR w T₀ V us vs (Array.replicate 12 false) { tmps := T₀, defers := [] } { w with drawn := w.drawn + 1 } := by
  have hf : ∀ j, (Array.replicate 12 false).getD j false = false := fun j => getD_replicate_false 12 j
  refine ⟨rfl, rfl, fun _ _ _ _ => rfl, fun i _ hl => ?_, (Qt.drewN w 1).keeps, fun hl => ?_, fun hl => ?_, fun hl => ?_, fun hl => ?_, fun x hl => ?_⟩
  all_goals (rw [hf] at hl; cases hl)
theorem evalOf {a : Act} {j : Nat} {v : Value} (h : a.tmps[j]? = some v) : a.eval (.tmp j) = v := by
  simp [Act.eval, h]
theorem InvR.final (h : InvR Wb T₀ V us vs listed a w) (hT : 81 ≤ T₀.size) (hall : ∀ i, i < 12 → listed.getD i false = true) : ∃ x y, a = { tmps := (((((((((T₀.setIfInBounds 10 (ptr x)).setIfInBounds 11 (ptr y)).setIfInBounds 73 (V 0)).setIfInBounds 74 (V 1)).setIfInBounds 75 (V 2)).setIfInBounds 76 (V 3)).setIfInBounds 77 (V 4)).setIfInBounds 78 (V 5)).setIfInBounds 79 (V 6)).setIfInBounds 80 (V 7), defers := [] } ∧
    Keeps Wb w ∧ Wb.heap.size ≤ x ∧ Wb.heap.size ≤ y ∧ x ≠ y ∧ x < w.heap.size ∧ y < w.heap.size ∧ Row w x 0 us ∧ Row w y 0 vs := by
  obtain ⟨x, x1, x2, x3, x4⟩ := h.one (hall 8 (by omega))
  obtain ⟨y, y1, y2, y3, y4⟩ := h.two (hall 9 (by omega))
  rw [hall 10 (by omega)] at x4
  rw [hall 11 (by omega)] at y4
  refine ⟨x, y, ?_, h.keeps, x2, y2, fun e => ?_, x3, y3, x4, y4⟩
  · have hv := fun i hi => h.val i hi (hall i (by omega))
    have ht : a.tmps = (((((((((T₀.setIfInBounds 10 (ptr x)).setIfInBounds 11 (ptr y)).setIfInBounds 73 (V 0)).setIfInBounds 74 (V 1)).setIfInBounds 75 (V 2)).setIfInBounds 76 (V 3)).setIfInBounds 77 (V 4)).setIfInBounds 78 (V 5)).setIfInBounds 79 (V 6)).setIfInBounds 80 (V 7) := by
      apply Array.ext_getElem?
      intro j
      simp only [Array.getElem?_setIfInBounds, Array.size_setIfInBounds]
      by_cases e80 : 80 = j
      · subst e80; rw [if_pos rfl, if_pos (by omega)]; exact hv 7 (by omega)
      rw [if_neg e80]
      by_cases e79 : 79 = j
      · subst e79; rw [if_pos rfl, if_pos (by omega)]; exact hv 6 (by omega)
      rw [if_neg e79]
      by_cases e78 : 78 = j
      · subst e78; rw [if_pos rfl, if_pos (by omega)]; exact hv 5 (by omega)
      rw [if_neg e78]
      by_cases e77 : 77 = j
      · subst e77; rw [if_pos rfl, if_pos (by omega)]; exact hv 4 (by omega)
      rw [if_neg e77]
      by_cases e76 : 76 = j
      · subst e76; rw [if_pos rfl, if_pos (by omega)]; exact hv 3 (by omega)
      rw [if_neg e76]
      by_cases e75 : 75 = j
      · subst e75; rw [if_pos rfl, if_pos (by omega)]; exact hv 2 (by omega)
      rw [if_neg e75]
      by_cases e74 : 74 = j
      · subst e74; rw [if_pos rfl, if_pos (by omega)]; exact hv 1 (by omega)
      rw [if_neg e74]
      by_cases e73 : 73 = j
      · subst e73; rw [if_pos rfl, if_pos (by omega)]; exact hv 0 (by omega)
      rw [if_neg e73]
      by_cases e11 : 11 = j
      · subst e11; rw [if_pos rfl, if_pos (by omega)]; exact y1
      rw [if_neg e11]
      by_cases e10 : 10 = j
      · subst e10; rw [if_pos rfl, if_pos (by omega)]; exact x1
      rw [if_neg e10]
      exact h.base j (by omega) (by omega) (by omega)
    have hd := h.dfr
    obtain ⟨t, d⟩ := a
    simp only at ht hd
    rw [ht, hd]
  · subst e
    exact h.ne x (hall 8 (by omega)) (hall 9 (by omega)) x1 y1
theorem run_store_row {P : Program} {w : World} {o : Oper} {a : Act} (T : TypeId) (x y : Operand) (ho : o.op = .store T x y) (g off : Nat) (hx : a.eval x = .pointer (some ⟨g, off, none⟩)) (olds cs : List Value) (hy : a.eval y = .agg cs.toArray) (hg : Row w g off olds) (hl : cs.length = olds.length)
    (hi : (P.info? T).map (·.size) = some cs.length) (h1 : ∀ v ∈ cs, v.oneCell' = true) : ∃ w', (execOp a.eval o).run P w = .ok .skip w' ∧ Row w' g off cs ∧ Chg (· = g) w w' := by
  refine ⟨_, ?_, hg.whole hl, setCells_chg _ _ _ _⟩
  unfold execOp
  simp only [ho, hx, hy, Instr.storeAt, Instr.sureAddr, Sem.run_bind, Sem.run_pure, Result.andThen_ok, run_storeVar_row w g off T olds cs hg hl hi h1]
theorem run_alloc5 {w : World} {o : Oper} {a : Act} (ho : o.op = .alloc 121) : (execOp a.eval o).run Tryd.prog w = .ok (.value (ptr w.heap.size)) (w.alloc (.cells zero5.toArray 121)) := by
  unfold execOp
  simp only [ho]
  go_simp
  exact ⟨rfl, rfl⟩
theorem run_line {w : World} {o : Oper} {a : Act} (t1 t2 t3 : Nat) (b : Bool) (ho : o.op = .call { callee := .value (.func 63), args := #[.tmp t1, .tmp t2, .tmp t3, .const (.bool b)], argTypes := #[125, 121, 127, 4] }) (v1 v2 v3 : Value)
    (h1 : a.eval (.tmp t1) = v1) (h2 : a.eval (.tmp t2) = v2) (h3 : a.eval (.tmp t3) = v3) : (execOp a.eval o).run Tryd.prog w = .ok (.enter 63 #[v1, v2, v3, .bool b]) w := by
  unfold execOp
  simp only [ho]
  go_simp
  exact ⟨by simpa [Act.eval] using h1, by simpa [Act.eval] using h2, by simpa [Act.eval] using h3⟩
/-- the values of the region's first eight operations -/
def slotsV (s : S5) (xs : List Int) (u v : S5) : Nat → Value
  | 0 => .agg (roundsV rL sL kL).toArray
  | 1 => .agg (s.list.map (Value.int .u32)).toArray
  | 2 => .agg (xs.map (Value.int .u32)).toArray
  | 3 => .agg (u.list.map (Value.int .u32)).toArray
  | 4 => .agg (roundsV rR sR kR).toArray
  | 5 => .agg (s.list.map (Value.int .u32)).toArray
  | 6 => .agg (xs.map (Value.int .u32)).toArray
  | _ => .agg (v.list.map (Value.int .u32)).toArray
theorem wpListIn_store_row {P : Program} {w : World} {l n : Nat} {ops : Array Oper} {rest : List Oper} {o : Oper} {a : Act} {Q : Exit → Act → World → Prop} (hgd : o.guard = none) (T : TypeId) (x y : Operand) (ho : o.op = .store T x y)
    (g off : Nat) (hx : a.eval x = .pointer (some ⟨g, off, none⟩)) (olds cs : List Value) (hy : a.eval y = .agg cs.toArray) (hg : Row w g off olds) (hl : cs.length = olds.length)
    (hi : (P.info? T).map (·.size) = some cs.length) (h1 : ∀ v ∈ cs, v.oneCell' = true)
    (h : ∀ w', Row w' g off cs → Chg (· = g) w w' → wpListIn (Fence.wide.inRound l) n P ops Q rest (a.put o.dst undef) w') : wpListIn (Fence.wide.inRound l) n P ops Q (o :: rest) a w := by
  refine wpListIn_plain hgd fun K hK => ?_
  obtain ⟨w', hrun, hr, hc⟩ := run_store_row (o := o) T x y ho g off hx olds cs hy hg hl hi h1
  refine ⟨fun f _ => trivial, ?_⟩
  rw [show (Fence.wide.inRound l).round = some l from rfl, Oper.semAt_some _ _ _ (fun c e => by rw [ho] at e; cases e), hrun]
  exact hK _ _ (h _ hr hc)
theorem opIn_store_row {P : Program} {w : World} {l n i : Nat} {ops : Array Oper} {o : Oper} {a : Act} {K : Act → World → Prop} {Q : Exit → Act → World → Prop} (hii : ops[i]? = some o) (hgd : o.guard = none) (T : TypeId) (x y : Operand) (ho : o.op = .store T x y)
    (g off : Nat) (hx : a.eval x = .pointer (some ⟨g, off, none⟩)) (olds cs : List Value) (hy : a.eval y = .agg cs.toArray) (hg : Row w g off olds) (hl : cs.length = olds.length)
    (hi : (P.info? T).map (·.size) = some cs.length) (h1 : ∀ v ∈ cs, v.oneCell' = true)
    (h : ∀ w', Row w' g off cs → Chg (· = g) w w' → K (a.put o.dst undef) w') : wpOpIn (Fence.wide.inRound l) n P ops Q i K a w := by
  obtain ⟨w', hrun, hr, hc⟩ := run_store_row (o := o) T x y ho g off hx olds cs hy hg hl hi h1
  exact opIn_skip hii hgd (fun c e => by rw [ho] at e; cases e) hrun (h _ hr hc)
theorem sz16 : (Tryd.prog.info? 127).map (·.size) = some 16 := by kernel_rfl
end Go.Proofs.YtlofddoojkeakaaDoor.Rip
namespace Go.Proofs.YtlofddoojkeakaaDoor.Rip
set_option linter.unusedVariables false
set_option linter.unusedSimpArgs false
open Go Go.RowKit

theorem wpList_build_at {P : Program} {ops : Array Oper} {rest : List Oper} {o : Oper} {a : Act} {w : World} {Q : Exit → Act → World → Prop} (hg : o.guard = none) (t : TypeId) (parts : Array (Nat × Operand)) (ho : o.op = .build t parts) (vs : List (Nat × Value)) (hv : (parts.map fun (i, x) => (i, a.eval x)).toList = vs) (out : Array Value)
    (hb : P.built t vs = some out) (h : wpList P ops Q rest (a.put o.dst (.agg out)) w) : wpList P ops Q (o :: rest) a w := by
  subst hv
  refine wpList_plain hg fun _ hK => ?_
  unfold Oper.wp execOp
  simp only [ho, Sem.run_bind, run_build w t _ _ hb, Result.andThen_ok]
  exact hK _ _ h
theorem builtL : Tryd.prog.built 125 [(0, .agg ((ints rL).map (Value.int .i64)).toArray), (1, .agg ((ints sL).map (Value.int .i64)).toArray), (2, .agg (kL.map (Value.int .u32)).toArray)] = some (roundsV rL sL kL).toArray := by kernel_rfl
theorem builtR : Tryd.prog.built 125 [(0, .agg ((ints rR).map (Value.int .i64)).toArray), (1, .agg ((ints sR).map (Value.int .i64)).toArray), (2, .agg (kR.map (Value.int .u32)).toArray)] = some (roundsV rR sR kR).toArray := by kernel_rfl
theorem sz_rounds : (Tryd.prog.info? 125).map (·.size) = some 165 := by kernel_rfl
theorem sz_int : (Tryd.prog.info? 3).map (·.size) = some 1 := by kernel_rfl
theorem zeroLen : Tryd.zeroCells125.toList.length = 165 := by kernel_rfl
theorem rounds_one (rt st : List Nat) (kt : List Int) : ∀ v ∈ roundsV rt st kt, v.oneCell' = true := by
  intro v hv
  simp only [roundsV, List.mem_append, List.mem_map] at hv
  rcases hv with ⟨_, _, rfl⟩ | ⟨_, _, rfl⟩ | ⟨_, _, rfl⟩ <;> rfl
set_option maxHeartbeats 400000 in
set_option maxRecDepth 100000 in
theorem left_any (w : World) : Calls Tryd.prog 61 #[] w fun e w' => e = .returned (.agg (roundsV rL sL kL).toArray) ∧ Keeps w w' := by
  have HB := Lib.hid builtL
  have Z : Hid ((Tryd.prog.info? 125).map (·.size) = some (roundsV rL sL kL).length) := by rw [roundsV_length tabL]; exact Lib.hid sz_rounds
  go_enter Tryd.func61, Tryd.ntmps61
  go_upto_region 1 with (fail)
  refine wp_gen (fun W => Keeps w W ∧ Row W w.heap.size 0 Tryd.zeroCells125.toList) ⟨keeps_alloc (Keeps.refl w) _, Row.new Tryd.zeroCells125.toList _ _ Array.toArray_toList.symm⟩ ?_
  intro W1 ⟨hk1, hr1⟩
  have HK1 := Lib.hid hk1; have HR1 := Lib.hid hr1
  clear hk1 hr1
  go_wp2_with (first | (refine wpList_buildFlatArrTo rfl 123 3 80 _ rfl .i64 (ints rL) (some 1) rfl Tryd.underlying123 sz_int (by kernel_rfl) (by kernel_rfl) ?_; simp only [Act.put, List.setIfInBounds_toArray, List.set_cons_zero, List.set_cons_succ]) | (refine wpList_buildFlatArrTo rfl 123 3 80 _ rfl .i64 (ints sL) (some 2) rfl Tryd.underlying123 sz_int (by kernel_rfl) (by kernel_rfl) ?_; simp only [Act.put, List.setIfInBounds_toArray, List.set_cons_zero, List.set_cons_succ]) | (refine wpList_buildFlatArrTo rfl 121 23 5 _ rfl .u32 kL (some 3) rfl Tryd.underlying121 sz_u32 (by kernel_rfl) (by kernel_rfl) ?_; simp only [Act.put, List.setIfInBounds_toArray, List.set_cons_zero, List.set_cons_succ]) | (refine wpList_build_at rfl 125 _ rfl [(0, .agg ((ints rL).map (Value.int .i64)).toArray), (1, .agg ((ints sL).map (Value.int .i64)).toArray), (2, .agg (kL.map (Value.int .u32)).toArray)] (by kernel_rfl) _ HB.out ?_; simp only [Act.put, List.setIfInBounds_toArray, List.set_cons_zero, List.set_cons_succ]) | (refine wpList_store_row rfl 125 (.tmp 0) (.tmp 4) rfl w.heap.size 0 rfl Tryd.zeroCells125.toList (roundsV rL sL kL) rfl HR1.out (by rw [roundsV_length tabL, zeroLen]) Z.out (rounds_one _ _ _) ?_; intro W2 hr2 hc2; have HR2 := Lib.hid hr2; have HC2 := Lib.hid hc2; clear hr2 hc2))
  exact bodyPost_ret (v := .agg (roundsV rL sL kL).toArray) (results_cell_at (p := 0) (ty := 125) (by kernel_rfl) _ _ w.heap.size 0 _ _ rfl HR2.out Tryd.underlying125 rfl Z.out) rfl ⟨rfl, keeps_chg HK1.out HC2.out (Nat.le_refl _)⟩
set_option maxHeartbeats 400000 in
set_option maxRecDepth 100000 in
theorem right_any (w : World) : Calls Tryd.prog 62 #[] w fun e w' => e = .returned (.agg (roundsV rR sR kR).toArray) ∧ Keeps w w' := by
  have HB := Lib.hid builtR
  have Z : Hid ((Tryd.prog.info? 125).map (·.size) = some (roundsV rR sR kR).length) := by rw [roundsV_length tabR]; exact Lib.hid sz_rounds
  go_enter Tryd.func62, Tryd.ntmps62
  go_upto_region 1 with (fail)
  refine wp_gen (fun W => Keeps w W ∧ Row W w.heap.size 0 Tryd.zeroCells125.toList) ⟨keeps_alloc (Keeps.refl w) _, Row.new Tryd.zeroCells125.toList _ _ Array.toArray_toList.symm⟩ ?_
  intro W1 ⟨hk1, hr1⟩
  have HK1 := Lib.hid hk1; have HR1 := Lib.hid hr1
  clear hk1 hr1
  go_wp2_with (first | (refine wpList_buildFlatArrTo rfl 123 3 80 _ rfl .i64 (ints rR) (some 1) rfl Tryd.underlying123 sz_int (by kernel_rfl) (by kernel_rfl) ?_; simp only [Act.put, List.setIfInBounds_toArray, List.set_cons_zero, List.set_cons_succ]) | (refine wpList_buildFlatArrTo rfl 123 3 80 _ rfl .i64 (ints sR) (some 2) rfl Tryd.underlying123 sz_int (by kernel_rfl) (by kernel_rfl) ?_; simp only [Act.put, List.setIfInBounds_toArray, List.set_cons_zero, List.set_cons_succ]) | (refine wpList_buildFlatArrTo rfl 121 23 5 _ rfl .u32 kR (some 3) rfl Tryd.underlying121 sz_u32 (by kernel_rfl) (by kernel_rfl) ?_; simp only [Act.put, List.setIfInBounds_toArray, List.set_cons_zero, List.set_cons_succ]) | (refine wpList_build_at rfl 125 _ rfl [(0, .agg ((ints rR).map (Value.int .i64)).toArray), (1, .agg ((ints sR).map (Value.int .i64)).toArray), (2, .agg (kR.map (Value.int .u32)).toArray)] (by kernel_rfl) _ HB.out ?_; simp only [Act.put, List.setIfInBounds_toArray, List.set_cons_zero, List.set_cons_succ]) | (refine wpList_store_row rfl 125 (.tmp 0) (.tmp 4) rfl w.heap.size 0 rfl Tryd.zeroCells125.toList (roundsV rR sR kR) rfl HR1.out (by rw [roundsV_length tabR, zeroLen]) Z.out (rounds_one _ _ _) ?_; intro W2 hr2 hc2; have HR2 := Lib.hid hr2; have HC2 := Lib.hid hc2; clear hr2 hc2))
  exact bodyPost_ret (v := .agg (roundsV rR sR kR).toArray) (results_cell_at (p := 0) (ty := 125) (by kernel_rfl) _ _ w.heap.size 0 _ _ rfl HR2.out Tryd.underlying125 rfl Z.out) rfl ⟨rfl, keeps_chg HK1.out HC2.out (Nat.le_refl _)⟩
/-- the first k and the last k of eight exchanged -/
def rv (x0 x1 x2 x3 x4 x5 x6 x7 : Int) : Nat → List Int
  | 0 => [x0, x1, x2, x3, x4, x5, x6, x7]
  | 1 => [x7, x1, x2, x3, x4, x5, x6, x0]
  | 2 => [x7, x6, x2, x3, x4, x5, x1, x0]
  | 3 => [x7, x6, x5, x3, x4, x2, x1, x0]
  | _ => [x7, x6, x5, x4, x3, x2, x1, x0]
theorem rv_length (x0 x1 x2 x3 x4 x5 x6 x7 : Int) (k : Nat) : (rv x0 x1 x2 x3 x4 x5 x6 x7 k).length = 8 := by unfold rv; split <;> rfl
theorem rv_step (x0 x1 x2 x3 x4 x5 x6 x7 : Int) (k : Nat) (hk : k < 4) : ((rv x0 x1 x2 x3 x4 x5 x6 x7 k).set k ((rv x0 x1 x2 x3 x4 x5 x6 x7 k).getD (7 - k) 0)).set (7 - k) ((rv x0 x1 x2 x3 x4 x5 x6 x7 k).getD k 0) = rv x0 x1 x2 x3 x4 x5 x6 x7 (k + 1) := by
  have : k = 0 ∨ k = 1 ∨ k = 2 ∨ k = 3 := by omega
  rcases this with rfl | rfl | rfl | rfl <;> rfl
set_option maxHeartbeats 400000 in
set_option maxRecDepth 100000 in
theorem reverse8 (g off cap : Nat) (hc : 8 ≤ cap) (hc2 : cap ≤ maxLen) (x0 x1 x2 x3 x4 x5 x6 x7 : Int) (w : World) (hr : Row w g off ([x0, x1, x2, x3, x4, x5, x6, x7].map (Value.int .u8))) :
    Calls Tryd.prog 60 #[.slice (some ⟨g, off, none⟩) 8 cap] w fun e w' => e = .returned (.tuple #[]) ∧ Chg (· = g) w w' ∧ Row w' g off ([x7, x6, x5, x4, x3, x2, x1, x0].map (Value.int .u8)) ∧ Beside w w' g off 8 := by
  unfold maxLen at hc2
  have HR := Lib.hid (show Row w g off ((rv x0 x1 x2 x3 x4 x5 x6 x7 0).map (Value.int .u8)) from hr)
  have HE := Lib.hid (show rv x0 x1 x2 x3 x4 x5 x6 x7 4 = [x7, x6, x5, x4, x3, x2, x1, x0] from rfl)
  have HL := Lib.hid (rv_length x0 x1 x2 x3 x4 x5 x6 x7)
  have HS := Lib.hid (rv_step x0 x1 x2 x3 x4 x5 x6 x7)
  clear hr
  generalize rv x0 x1 x2 x3 x4 x5 x6 x7 = rvl at *
  go_enter Tryd.func60, Tryd.ntmps60
  go_wp2
  go_loopw [2, 3] (fun ci cj wr => ∃ k : Nat, k ≤ 4 ∧ ci = .int .i64 k ∧ cj = .int .i64 (7 - (k : Int)) ∧ Chg (· = g) w wr ∧ Row wr g off ((rvl k).map (Value.int .u8)) ∧ Hid (Beside w wr g off 8)) (fun ci _ _ => (4 - intOf ci).toNat)
  case atStart => exact ⟨0, by omega, rfl, rfl, Chg.refl _ _, HR.out, Lib.hid (Beside.of_block rfl _ _)⟩
  case round =>
    obtain ⟨k, hk, rfl, rfl, hch, hrt, hbs⟩ := hrel
    by_cases hlt : k < 4
    · have c1 := hrt.int k (by rw [HL.out]; omega)
      have c2 := hrt.int (7 - k) (by rw [HL.out]; omega)
      have f1 := hrt.free k (by rw [List.length_map, HL.out]; omega)
      have f2 := hrt.free (7 - k) (by rw [List.length_map, HL.out]; omega)
      have hset := (hrt.setInt k (by rw [HL.out]; omega) ((rvl k).getD (7 - k) 0)).setInt (7 - k) (by rw [List.length_set, HL.out]; omega) ((rvl k).getD k 0)
      rw [HS.out k hlt] at hset
      have hbs2 := Beside.trans (Beside.trans hbs.out (Beside.setCell (o := off) (n := 8) (i := k) (by omega) (.int .u8 ((rvl k).getD (7 - k) 0)))) (Beside.setCell (o := off) (n := 8) (i := 7 - k) (by omega) (.int .u8 ((rvl k).getD k 0)))
      have HSET := Lib.hid hset; have HCH := Lib.hid hch; have HBS := Lib.hid hbs2
      clear hset hch hrt hbs hbs2
      generalize (rvl k).getD k 0 = y1 at *
      generalize (rvl k).getD (7 - k) 0 = y2 at *
      have hn7 : ((7 - k : Nat) : Int) = 7 - (k : Int) := by omega
      go_wp2
      go_region
      go_wp2
      go_roundw
      case rel => exact ⟨k + 1, by omega, by go_num, by go_num, ((HCH.out.setCell (.inr rfl) _).setCell (.inr rfl) _).drew, HSET.out.drew, Lib.hid (HBS.out.trans (Beside.of_block rfl _ _))⟩
      case measure => simp [intOf]; omega
    · obtain rfl : k = 4 := by omega
      rw [HE.out] at hrt
      have HRT := Lib.hid hrt; have HCH := Lib.hid hch
      clear hrt hch
      go_wp2
      go_end0
      exact ⟨rfl, HCH.out, HRT.out, hbs.out⟩
end Go.Proofs.YtlofddoojkeakaaDoor.Rip
