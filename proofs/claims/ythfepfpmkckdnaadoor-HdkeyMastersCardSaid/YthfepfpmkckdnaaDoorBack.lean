/- slices.Backward at bytes: what the range over it is handed, from the last on. No condition but that the slice isn't nil. -/
import Derived.RangeFuncNested
import Derived.RangeFuncBound
import Derived.RangeFuncCalls
import Derived.RangeFuncLeaves
import Derived.RangeFuncWrites
import Derived.RangeFuncBox
import Derived.Shelf.Abstract
import Derived.WalkKit
import Derived.OwnWalkIn
import Derived.TacticsInMore
import Derived.LoopNIn
import Derived.LoopIn
import Derived.Test.YthfepfpmkckdnaaDoorBuild
namespace Go.Proofs.YthfepfpmkckdnaaDoor
set_option linter.unusedVariables false
set_option linter.unusedSimpArgs false
open Go Go.RowKit Go.Shelf

abbrev B8 := { x : Int // 0 ≤ x ∧ x < 256 }
/-- what has come when k rounds are over, from the last on -/
def down {α : Type} (f : Nat → α) (len k : Nat) : List α := (List.range k).map fun j => f (len - 1 - j)
theorem down_succ {α : Type} (f : Nat → α) (len k : Nat) : down f len (k + 1) = down f len k ++ [f (len - 1 - k)] := by simp [down, List.range_succ]
theorem down_length {α : Type} (f : Nat → α) (len k : Nat) : (down f len k).length = k := by simp [down]
/-- what a round keeps for Backward: what lay below n₀, and the box of the slice -/
def KpT (n₀ Bs : Nat) (W W' : World) : Prop := Below n₀ W W' ∧ (W.heap[Bs]? = W'.heap[Bs]?)
theorem KpT.t {n₀ Bs : Nat} {A B C : World} (h : KpT n₀ Bs A B) (k : KpT n₀ Bs B C) : KpT n₀ Bs A C := ⟨h.1.trans k.1, h.2.trans k.2⟩
theorem KpT.b {n₀ Bs : Nat} {w : World} (hn : n₀ ≤ w.heap.size) (hB : Bs < w.heap.size) (W : World) (l : Nat) (o o' : Obj) (hl : w.heap.size ≤ l) (h : W.heap[l]? = some o) (hc : o.isCells = false) (hw : o.isWalk = false) : KpT n₀ Bs W (W.putObj l o') :=
  ⟨belowK_b hn W l o o' hl h hc hw, (World.putObj_heap_other (by omega)).symm⟩
theorem cell_heap {W W' : World} {b : Nat} (h : W.heap[b]? = W'.heap[b]?) (o : Nat) : W'.cell? ⟨b, o, none⟩ = W.cell? ⟨b, o, none⟩ := by simp [World.cell?, h]

end Go.Proofs.YthfepfpmkckdnaaDoor
