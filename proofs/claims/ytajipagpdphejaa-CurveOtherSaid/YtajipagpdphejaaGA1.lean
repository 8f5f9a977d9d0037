/- Words on memory used by my walks: a row of cells from a place on (Row), a change of some blocks alone (Chg), whole arrays read out of a row. No condition. | A region that draws its order, whose operations but the last ones (in one forced order) are quiet: the first ones are walked once, in the order of the text; then the last ones as a plain list. (The kit's StillTail, at the class of worlds of its Quiet.) No condition. -/
import Derived.Test.YtajipagpdphejaaGA0
import Derived.Laws.Rows
import Derived.StillTail
import Derived.Deep.QuietTactic
import Derived.BigQuiet
namespace Go.Proofs.Ytajipagpdphejaa
set_option linter.unusedVariables false
set_option linter.unusedSimpArgs false
open Go Go.RowKit

/-- cells from 'off' on in block b hold these values, and may be written -/
def Row (w : World) (b off : Nat) (vs : List Value) : Prop := ∀ j v, vs[j]? = some v → w.cell? ⟨b, off + j, none⟩ = some v ∧ w.frozen? ⟨b, off + j, none⟩ = false

/-- only blocks of S that were there have changed -/
structure Chg (S : Nat → Prop) (w w' : World) : Prop where
  os : w'.os = w.os
  tape : w'.tape = w.tape
  output : w'.output = w.output
  size : w.heap.size ≤ w'.heap.size
  block : ∀ k, k < w.heap.size → ¬ S k → w'.heap[k]? = w.heap[k]?
theorem Chg.refl (S : Nat → Prop) (w : World) : Chg S w w := ⟨rfl, rfl, rfl, Nat.le_refl _, fun _ _ _ => rfl⟩
theorem Chg.trans {S : Nat → Prop} {a b c : World} (h : Chg S a b) (k : Chg S b c) : Chg S a c :=
  ⟨k.os.trans h.os, k.tape.trans h.tape, k.output.trans h.output, Nat.le_trans h.size k.size, fun i hi hs => (k.block i (Nat.lt_of_lt_of_le hi h.size) hs).trans (h.block i hi hs)⟩
theorem Chg.mono {S T : Nat → Prop} {w w' : World} (h : Chg S w w') (hs : ∀ k, k < w.heap.size → S k → T k) : Chg T w w' :=
  ⟨h.os, h.tape, h.output, h.size, fun k hk ht => h.block k hk (fun hsk => ht (hs k hk hsk))⟩
theorem Keeps.chg {w w' : World} (h : Keeps w w') (S : Nat → Prop) : Chg S w w' := ⟨h.os, h.tape, h.output, h.size, fun k hk _ => h.block k hk⟩
theorem Chg.below {S : Nat → Prop} {w w' : World} (h : Chg S w w') {B : Nat} (hB : B ≤ w.heap.size) (hs : ∀ k, k < B → ¬ S k) : Below B w w' :=
  ⟨h.os, h.tape, h.output, h.size, fun k hk => h.block k (Nat.lt_of_lt_of_le hk hB) (hs k hk)⟩
theorem Chg.keeps {S : Nat → Prop} {w w' : World} (h : Chg S w w') (hs : ∀ k, k < w.heap.size → ¬ S k) : Keeps w w' := h.below (Nat.le_refl _) hs
theorem Chg.drewN {S : Nat → Prop} {a w : World} (h : Chg S a w) (n : Nat) : Chg S a (w.drewN n) := h.trans ((Qt.drewN w n).keeps.chg S)
theorem Chg.drew {S : Nat → Prop} {a w : World} (h : Chg S a w) : Chg S a w.drew := h.trans (Keeps.chg (Below.drew (Below.refl _ w)) S)
theorem Chg.alloc {S : Nat → Prop} {a w : World} (h : Chg S a w) (o : Obj) : Chg S a (w.alloc o) := h.trans (Keeps.chg (Below.alloc (Below.refl _ w) (Nat.le_refl _) o) S)
theorem Chg.setCell {S : Nat → Prop} {a w : World} (h : Chg S a w) {p : Addr} (hp : a.heap.size ≤ p.block ∨ S p.block) (u : Value) : Chg S a (w.setCell p u) :=
  ⟨h.os, h.tape, h.output, by simpa using h.size, fun k hk hs => by
    have hne : k ≠ p.block := by
      intro e
      subst e
      rcases hp with hp | hp
      · omega
      · exact hs hp
    rw [heap_setCell_other w p k u hne]
    exact h.block k hk hs⟩
theorem Row.lt {w : World} {b off : Nat} {vs : List Value} (h : Row w b off vs) (hne : vs ≠ []) : b < w.heap.size := by
  cases vs with
  | nil => exact absurd rfl hne
  | cons v vs => exact World.block_lt_of_cell? w _ (h 0 v rfl).1
theorem Row.of_block {w w' : World} {b off : Nat} {vs : List Value} (h : Row w b off vs) (hb : w'.heap[b]? = w.heap[b]?) : Row w' b off vs := fun j v hv =>
  ⟨(World.cell?_of_block (w := w) (a := ⟨b, off + j, none⟩) hb).trans (h j v hv).1, (World.frozen?_of_block (w := w) (a := ⟨b, off + j, none⟩) hb).trans (h j v hv).2⟩
theorem Row.chg {S : Nat → Prop} {w w' : World} {b off : Nat} {vs : List Value} (h : Row w b off vs) (hc : Chg S w w') (hs : ¬ S b) : Row w' b off vs := by
  by_cases hne : vs = []
  · subst hne; intro j v hv; simp at hv
  · exact h.of_block (hc.block b (h.lt hne) hs)
theorem Row.keeps {w w' : World} {b off : Nat} {vs : List Value} (h : Row w b off vs) (hc : Keeps w w') : Row w' b off vs := h.chg (hc.chg (fun _ => False)) (fun h => h)
theorem Row.alloc {w : World} {b off : Nat} {vs : List Value} (h : Row w b off vs) (o : Obj) : Row (w.alloc o) b off vs := h.keeps ((Keeps.refl w).alloc (Nat.le_refl _) o)
theorem Row.drewN {w : World} {b off : Nat} {vs : List Value} (h : Row w b off vs) (n : Nat) : Row (w.drewN n) b off vs := h
theorem Row.drew {w : World} {b off : Nat} {vs : List Value} (h : Row w b off vs) : Row w.drew b off vs := h
theorem Row.other {w : World} {b off : Nat} {vs : List Value} (h : Row w b off vs) {p : Addr} (hp : b ≠ p.block) (u : Value) : Row (w.setCell p u) b off vs := h.of_block (heap_setCell_other w p b u hp)
/-- a store beside the row, in the same block -/
theorem Row.beside {w : World} {b off : Nat} {vs : List Value} (h : Row w b off vs) (o : Nat) (ho : o < off ∨ off + vs.length ≤ o) (u : Value) : Row (w.setCell ⟨b, o, none⟩ u) b off vs := fun j v hv => by
  have hj : j < vs.length := by
    by_cases hj : j < vs.length
    · exact hj
    · rw [List.getElem?_eq_none (by omega)] at hv; cases hv
  refine ⟨?_, by rw [World.frozen?_setCell]; exact (h j v hv).2⟩
  rw [World.cell?_setCell_other]
  · exact (h j v hv).1
  · intro e
    have := congrArg Addr.off e
    simp at this; omega
theorem Row.set {w : World} {b off : Nat} {vs : List Value} (h : Row w b off vs) (i : Nat) (hi : i < vs.length) (u : Value) : Row (w.setCell ⟨b, off + i, none⟩ u) b off (vs.set i u) := fun j v hv => by
  refine ⟨?_, ?_⟩
  · by_cases e : i = j
    · subst e
      rw [List.getElem?_set_self hi] at hv
      cases hv
      exact World.cell?_setCell_same _ _ _ (h i vs[i] (by simp)).1
    · rw [List.getElem?_set_ne e] at hv
      rw [World.cell?_setCell_other]
      · exact (h j v hv).1
      · intro e2
        have := congrArg Addr.off e2
        simp at this; exact e this
  · rw [World.frozen?_setCell]
    by_cases e : i = j
    · subst e; exact (h i vs[i] (by simp)).2
    · rw [List.getElem?_set_ne e] at hv; exact (h j v hv).2
theorem Row.new {w : World} (vs : List Value) (cs : Array Value) (T : TypeId) (e : cs = vs.toArray) : Row (w.alloc (.cells cs T)) w.heap.size 0 vs := fun j v hv => by
  subst e
  rw [Nat.zero_add, World.cell?_alloc_at _ _ _ _ rfl, World.frozen?_alloc_at _ _ _ _ rfl]
  exact ⟨by simpa using hv, rfl⟩
theorem Row.take {w : World} {b off : Nat} {vs : List Value} (h : Row w b off vs) (n : Nat) : Row w b off (vs.take n) := fun j v hv => h j v (by
  rw [List.getElem?_take] at hv; split at hv
  · exact hv
  · cases hv)
theorem Row.drop {w : World} {b off : Nat} {vs : List Value} (h : Row w b off vs) (n : Nat) : Row w b (off + n) (vs.drop n) := fun j v hv => by
  rw [List.getElem?_drop] at hv
  rw [Nat.add_assoc]; exact h _ _ hv
theorem Row.append {w : World} {b off : Nat} {xs ys : List Value} (h : Row w b off xs) (k : Row w b (off + xs.length) ys) : Row w b off (xs ++ ys) := fun j v hv => by
  by_cases hj : j < xs.length
  · rw [List.getElem?_append_left hj] at hv; exact h j v hv
  · rw [List.getElem?_append_right (by omega)] at hv
    have := k _ v hv
    rwa [show off + xs.length + (j - xs.length) = off + j by omega] at this

/-- the cell of a row of integers -/
theorem Row.int {k : IntKind} {w : World} {b off : Nat} {zs : List Int} (h : Row w b off (zs.map (Value.int k))) (j : Nat) (hj : j < zs.length) : w.cell? ⟨b, off + j, none⟩ = some (.int k (zs.getD j 0)) :=
  (h j _ (by simp [List.getD, hj])).1
theorem Row.int0 {k : IntKind} {w : World} {b : Nat} {zs : List Int} (h : Row w b 0 (zs.map (Value.int k))) (j : Nat) (hj : j < zs.length) : w.cell? ⟨b, j, none⟩ = some (.int k (zs.getD j 0)) := by
  have := h.int j hj; rwa [Nat.zero_add] at this
theorem Row.free {w : World} {b off : Nat} {vs : List Value} (h : Row w b off vs) (j : Nat) (hj : j < vs.length) : w.frozen? ⟨b, off + j, none⟩ = false := (h j vs[j] (by simp)).2
theorem Row.free0 {w : World} {b : Nat} {vs : List Value} (h : Row w b 0 vs) (j : Nat) (hj : j < vs.length) : w.frozen? ⟨b, j, none⟩ = false := by
  have := h.free j hj; rwa [Nat.zero_add] at this
theorem Row.setInt0 {k : IntKind} {w : World} {b : Nat} {zs : List Int} (h : Row w b 0 (zs.map (Value.int k))) (i : Nat) (hi : i < zs.length) (u : Int) : Row (w.setCell ⟨b, i, none⟩ (.int k u)) b 0 ((zs.set i u).map (Value.int k)) := by
  have := h.set i (by simpa using hi) (.int k u)
  rw [Nat.zero_add] at this
  rwa [List.map_set]
theorem Row.setInt {k : IntKind} {w : World} {b off : Nat} {zs : List Int} (h : Row w b off (zs.map (Value.int k))) (i : Nat) (hi : i < zs.length) (u : Int) : Row (w.setCell ⟨b, off + i, none⟩ (.int k u)) b off ((zs.set i u).map (Value.int k)) := by
  have := h.set i (by simpa using hi) (.int k u)
  rwa [List.map_set]

/-- beside n cells from o on, block b reads as it did -/
def Beside (w w' : World) (b o n : Nat) : Prop := ∀ j, (j < o ∨ o + n ≤ j) → w'.cell? ⟨b, j, none⟩ = w.cell? ⟨b, j, none⟩ ∧ w'.frozen? ⟨b, j, none⟩ = w.frozen? ⟨b, j, none⟩
theorem Beside.of_block {w w' : World} {b : Nat} (h : w'.heap[b]? = w.heap[b]?) (o n : Nat) : Beside w w' b o n := fun j _ =>
  ⟨World.cell?_of_block (w := w) (a := ⟨b, j, none⟩) h, World.frozen?_of_block (w := w) (a := ⟨b, j, none⟩) h⟩
theorem Beside.keeps {w w' : World} {b : Nat} (h : Keeps w w') (hb : b < w.heap.size) (o n : Nat) : Beside w w' b o n := Beside.of_block (h.block b hb) o n
theorem Beside.trans {a b c : World} {g o n : Nat} (h : Beside a b g o n) (k : Beside b c g o n) : Beside a c g o n := fun j hj =>
  ⟨(k j hj).1.trans (h j hj).1, (k j hj).2.trans (h j hj).2⟩
theorem Beside.setCell {w : World} {b o n i : Nat} (hi : i < n) (u : Value) : Beside w (w.setCell ⟨b, o + i, none⟩ u) b o n := fun j hj => by
  refine ⟨World.cell?_setCell_other _ _ _ _ ?_, World.frozen?_setCell _ _ _ _⟩
  intro e
  have := congrArg Addr.off e
  simp at this; omega
/-- a part of a row written anew -/
theorem Row.patch {w w' : World} {b base : Nat} {vs cs : List Value} (h : Row w b base vs) (i : Nat) (hc : Row w' b (base + i) cs) (hb : Beside w w' b (base + i) cs.length) (hl : i + cs.length ≤ vs.length) :
    Row w' b base (vs.take i ++ cs ++ vs.drop (i + cs.length)) := fun j v hv => by
  by_cases h1 : j < i
  · rw [List.append_assoc, List.getElem?_append_left (by simp; omega), List.getElem?_take, if_pos h1] at hv
    have e := hb (base + j) (.inl (by omega))
    exact ⟨e.1.trans (h j v hv).1, e.2.trans (h j v hv).2⟩
  · by_cases h2 : j < i + cs.length
    · rw [List.append_assoc, List.getElem?_append_right (by simp; omega), List.getElem?_append_left (by simp; omega)] at hv
      have := hc (j - i) v (by simpa [Nat.min_eq_left (show i ≤ vs.length by omega)] using hv)
      rwa [show base + i + (j - i) = base + j by omega] at this
    · rw [List.getElem?_append_right (by simp; omega), List.getElem?_drop] at hv
      have hv' : vs[j]? = some v := by
        rw [← hv]; congr 1; simp; omega
      have e := hb (base + j) (.inr (by omega))
      exact ⟨e.1.trans (h j v hv').1, e.2.trans (h j v hv').2⟩

section
variable {P : Program}
/-- a whole array, or struct, read out of a row -/
theorem run_loadVar_at (w : World) (g off : Nat) (ty : TypeId) (cs : List Value) (d : TypeDesc) (hg : Row w g off cs)
    (hu : P.underlying ty = some d) (hd : (match d with | .struct _ | .array _ _ => true | _ => false) = true) (hi : (P.info? ty).map (·.size) = some cs.length) :
    (loadVar ty ⟨g, off, none⟩).run P w = .ok (.agg cs.toArray) w := by
  have hl : (loadCells ⟨g, off, none⟩ cs.length).run P w = .ok cs.toArray w :=
    run_loadCells_list (P := P) w ⟨g, off, none⟩ cs (fun j v hv => by
      have hadd : (⟨g, off, none⟩ : Addr).add j = ⟨g, off + j, none⟩ := by unfold Addr.add; split <;> simp_all
      rw [hadd]
      exact (hg j v hv).1)
  cases hq : P.info? ty with
  | none => simp [hq] at hi
  | some i =>
    have hs : i.size = cs.length := by simpa [hq] using hi
    have hagg : (isAgg ty).run P w = .ok true w := by
      unfold isAgg
      rw [Sem.run_bind, run_underlying hu w]
      cases d <;> simp_all
    simp [loadVar, Sem.run_bind, hagg, sizeOf, typeInfo, hq, hs, hl]
theorem wpList_load_at {ops : Array Oper} {rest : List Oper} {o : Oper} {a : Act} {w : World} {Q : Exit → Act → World → Prop} (hgd : o.guard = none) (ty : TypeId) (x : Operand) (ho : o.op = .load ty x)
    (g off : Nat) (hx : a.eval x = .pointer (some ⟨g, off, none⟩)) (cs : List Value) (d : TypeDesc) (hg : Row w g off cs)
    (hu : P.underlying ty = some d) (hd : (match d with | .struct _ | .array _ _ => true | _ => false) = true) (hi : (P.info? ty).map (·.size) = some cs.length)
    (h : wpList P ops Q rest (a.put o.dst (.agg cs.toArray)) w) : wpList P ops Q (o :: rest) a w :=
  wpList_plain hgd fun _ hK => by
    unfold Oper.wp execOp
    simp only [ho, hx, Instr.loadAt, Instr.sureAddr, Sem.run_bind, Sem.run_pure, Result.andThen_ok, run_loadVar_at w g off ty cs d hg hu hd hi]
    exact hK _ _ h
theorem results_cell_at {fn : Func} {p : Tmp} {ty : TypeId} (h : fn.results = #[.cell p ty]) (tmps : Array Value) (w : World) (g off : Nat) (cs : List Value) (d : TypeDesc)
    (hp : tmps.getD p undef = .pointer (some ⟨g, off, none⟩)) (hg : Row w g off cs)
    (hu : P.underlying ty = some d) (hd : (match d with | .struct _ | .array _ _ => true | _ => false) = true) (hi : (P.info? ty).map (·.size) = some cs.length) :
    (results fn tmps).run P w = .ok (.agg cs.toArray) w := by
  have hp' : tmps[p]?.getD undef = .pointer (some ⟨g, off, none⟩) := by simpa using hp
  simp [results, h, hp', asAddr, run_loadVar_at w g off ty cs d hg hu hd hi]
/-- an element of an array of integers that is a value -/
theorem run_index_ints (w : World) (T e : TypeId) (n : Nat) (k : IntKind) (zs : List Int) (i : Nat) (hu : P.underlying T = some (.array n e)) (he : P.underlying e = some (.int k)) (hs : (P.info? e).map (·.size) = some 1) (hl : zs.length = n) (hi : i < n) :
    (Instr.index T (.agg (zs.map (Value.int k)).toArray) (.int .i64 (i : Int))).run P w = .ok (.int k (zs.getD i 0)) w := by
  have hi' : i < zs.length := by omega
  have h1 : (0 : Int) ≤ (i : Int) ∧ (i : Int) < (n : Int) := by omega
  cases hq : P.info? e with
  | none => simp [hq] at hs
  | some x =>
    have hx : x.size = 1 := by simpa [hq] using hs
    simp [Instr.index, run_underlying hu, run_underlying he, asIntOf, h1, go_sem, part, isAgg, sizeOf, typeInfo, hq, hx, List.getD, hi']
    intro hni; omega
end
end Go.Proofs.Ytajipagpdphejaa
namespace Go.Proofs.Ytajipagpdphejaa
set_option linter.unusedVariables false
set_option linter.unusedSimpArgs false
open Go
section
variable {P : Program} {ops : Array Oper} {md : Region.Mode} {C : World → Prop}
def wpAnyQL (P : Program) (md : Region.Mode) (ops : Array Oper) (C : World → Prop) (n : Nat) (L : Array Bool → Act → Prop) : Nat → Array Bool → Act → Prop
  | 0, listed, a => L listed a
  | f + 1, listed, a =>
    Region.ready md ops listed ≠ [] ∧ ∀ i ∈ Region.ready md ops listed, i < n ∧ qOp P ops C i (wpAnyQL P md ops C n L f (listed.setIfInBounds i true)) a
theorem wpAny_of_qhead {n g : Nat} {L : Array Bool → Act → Prop} {Q' : Exit → Act → World → Prop} (hL : ∀ listed a w, C w → L listed a → wpAny P md ops Q' g listed a w) :
    ∀ (f : Nat) (listed : Array Bool) (a : Act) (w : World), C w → wpAnyQL P md ops C n L f listed a → wpAny P md ops Q' (f + g) listed a w
  | 0, listed, a, w, hw, h => by rw [Nat.zero_add]; exact hL _ _ _ hw h
  | f + 1, listed, a, w, hw, h => by
    rw [show f + 1 + g = (f + g) + 1 by omega]
    exact ⟨fun h0 => absurd h0 h.1, fun i hi => wpOp_of_qOp hw (fun a' w' hw' h' => wpAny_of_qhead hL f _ a' w' hw' h') (h.2 i hi).2⟩
theorem wpAnyQL_first {n i : Nat} {oi : Oper} {v : Value} {L : Array Bool → Act → Prop} (hi : ops[i]? = some oi) (hsel : ∀ (j : Nat) (o : Oper) cs b, ops[j]? = some o → o.op ≠ .select cs b)
    (hs : Region.sinkB md ops n = true) (hc : Region.chainB md ops n = true) (hn : n < ops.size) (hin : i < n)
    (hdone : ∀ listed a, L listed a → ∀ j ∈ Region.ready md ops listed, n ≤ j) :
    ∀ (f : Nat) (listed : Array Bool) (a : Act), HeadInv md ops n listed →
      (∀ j oj, ops[j]? = some oj → j ≠ i → listed.getD j true = false → (∀ e ∈ oj.after, Region.binds md e = true → e.on ≠ i) → oi.apart ops oj = true) →
      i ∈ Region.ready md ops listed → YieldsIn P ops C oi v a →
      wpAnyQL P md ops C n L f (listed.setIfInBounds i true) (a.put oi.dst v) → wpAnyQL P md ops C n L (f + 1) listed a := by
  intro f
  induction f with
  | zero =>
    intro listed a inv _ hr hy H
    have hun := (mem_ready.1 hr).1
    refine ⟨fun h => (by rw [h] at hr; cases hr), fun j hj => ?_⟩
    have hjn : j < n := by
      rcases Nat.lt_or_ge j n with h | h
      · exact h
      · exact absurd hj (tail_waits hs hc hn inv _ i rfl hin hun j h)
    refine ⟨hjn, ?_⟩
    by_cases hji : j = i
    · subst hji; exact hy.qOp hi H
    · have := hdone _ _ H j (ready_mono hj hji)
      omega
  | succ f ih =>
    intro listed a inv hfree hr hy H
    have hun := (mem_ready.1 hr).1
    refine ⟨fun h => (by rw [h] at hr; cases hr), fun j hj => ?_⟩
    have hjn : j < n := by
      rcases Nat.lt_or_ge j n with h | h
      · exact h
      · exact absurd hj (tail_waits hs hc hn inv _ i rfl hin hun j h)
    refine ⟨hjn, ?_⟩
    by_cases hji : j = i
    · subst hji; exact hy.qOp hi H
    · have h1 := (H.2 j (ready_mono hj hji)).2
      obtain ⟨hjun, oj, hoj, hall⟩ := mem_ready.1 hj
      have hnot : ∀ e ∈ oj.after, Region.binds md e = true → e.on ≠ i := fun e he hb heq => by
        have h1 := hall e he hb
        rw [heq, getD_both hun] at h1
        cases h1
      have h2 := qOp_put hoj (hfree j oj hoj hji hjun hnot) (fun cs b => hsel i oi cs b hi) (fun cs b => hsel j oj cs b hoj) hy h1
      have hfree' : ∀ k ok, ops[k]? = some ok → k ≠ i → (listed.setIfInBounds j true).getD k true = false →
          (∀ e ∈ ok.after, Region.binds md e = true → e.on ≠ i) → oi.apart ops ok = true := fun k ok hk hki hun hno => by
        refine hfree k ok hk hki ?_ hno
        by_cases hjk : j = k
        · subst hjk; exact hjun
        · rw [getD_set_ne true hjk] at hun; exact hun
      refine qOp_mono (fun a' h3 => ih (listed.setIfInBounds j true) a' (inv.set hj hjn) hfree' (ready_mono hr (Ne.symm hji)) h3.1 ?_) h2
      rw [Array.setIfInBounds_comm _ _ hji]
      exact h3.2
theorem wpAnyQL_lex {n g : Nat} {Lq : Act → Prop} (hsel : Region.noSelect ops = true) (hs : Region.sinkB md ops n = true) (hc : Region.chainB md ops n = true) (hn : n < ops.size) :
    ∀ (l : List Oper) (k : Nat) (listed : Array Bool) (a : Act), (∀ j, j < l.length → l[j]? = ops[k + j]?) → k + l.length = n → HeadInv md ops n listed →
    Region.lexHead md ops g l.length k listed = true → wpQuiet P ops C Lq l a →
    wpAnyQL P md ops C n (fun listed' a' => Region.seqB md ops g n listed' = true ∧ Lq a') l.length listed a
  | [], k, listed, a, _, hk, _, hB, h => by
    have : k = n := by simpa using hk
    subst this
    exact ⟨by simpa [Region.lexHead] using hB, h⟩
  | o :: l, k, listed, a, hl, hk, inv, hB, h => by
    have h0 : ops[k]? = some o := by simpa using (hl 0 (by simp)).symm
    simp only [List.length_cons, Region.lexHead, Bool.and_eq_true] at hB
    obtain ⟨⟨hr, hf⟩, hB'⟩ := hB
    have hkn : k < n := by simp only [List.length_cons] at hk; omega
    have hr' : k ∈ Region.ready md ops listed := by simpa using hr
    have hst : qOp P ops C k (wpQuiet P ops C Lq l) a := by unfold qOp; simp only [h0]; exact h
    obtain ⟨v, hy, hK⟩ := yieldsIn_of_qOp h0 hst
    exact wpAnyQL_first h0 (Region.noSelect_spec hsel) hs hc hn hkn (fun listed' a' hL => seqB_ready hL.1) l.length listed a inv (Region.free_spec h0 hf) hr' hy
      (wpAnyQL_lex hsel hs hc hn l (k + 1) _ _ (fun j hj => by have := hl (j + 1) (by simp; omega); simpa [Nat.add_assoc, Nat.add_comm 1 j] using this) (by simp only [List.length_cons] at hk; omega) (inv.set hr' hkn) hB' hK)
theorem wp_region_quiet_tail {id : Nat} {Q : Exit → Act → World → Prop} {a : Act} {w : World} {l : List Oper} (n : Nat) (hm : P.follows .mixedOrders = true) (hB : Region.lexTailB .any l.toArray n = true)
    (h : wpQuiet P l.toArray (fun w' => ∃ m, w' = w.drewN m) (fun a' => ∀ w', (∃ m, w' = w.drewN m) → wpList P l.toArray Q (l.drop n) a' w') (l.take n) a) : (Code.region id l.toArray true).wp P Q a w := by
  simp only [Region.lexTailB, Bool.and_eq_true, decide_eq_true_eq] at hB
  obtain ⟨⟨⟨⟨hsel, hn⟩, hs⟩, hc⟩, hlex⟩ := hB
  have hn' : n < l.length := by simpa using hn
  have htl : (l.take n).length = n := by simp; omega
  have hdl : (l.drop n).length = l.toArray.size - n := by simp
  have inv0 : HeadInv .any l.toArray n (Array.replicate l.toArray.size false) :=
    ⟨by simp, fun j oj _ hl => (by rw [getD_replicate_false] at hl; cases hl), fun t _ ht => getD_in (by simpa using ht) (getD_replicate_false _ _)⟩
  have H := wpAnyQL_lex (md := .any) (g := l.toArray.size - n) hsel hs hc hn (l.take n) 0 _ a (fun j hj => by
    have hj' : j < n := by rw [htl] at hj; exact hj
    simp [hj']) (by simpa using htl) inv0 (by rw [htl]; exact hlex) h
  refine wp_region_any hm ?_
  have := wpAny_of_qhead (Q' := Q) (g := l.toArray.size - n) (fun listed a' w' hw' hL => by
    have := wpAny_of_seq (md := .any) (Q' := Q) (l.drop n) n listed a' w' (fun j => by simp [List.getElem?_drop]) (by rw [hdl]; exact hL.1) (hL.2 w' hw')
    rwa [hdl] at this) _ _ _ { w with drawn := w.drawn + 1 } ⟨1, rfl⟩ H
  rw [htl, show n + (l.toArray.size - n) = l.toArray.size by omega] at this
  exact this
end
end Go.Proofs.Ytajipagpdphejaa
