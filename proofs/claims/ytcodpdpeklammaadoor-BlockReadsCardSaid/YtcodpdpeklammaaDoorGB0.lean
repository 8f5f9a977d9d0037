/- The reference's Few. -/
import Derived.Test.YtcodpdpeklammaaDoorGA9
namespace Go.Proofs.YtcodpdpeklammaaDoor
set_option linter.unusedVariables false
set_option linter.unusedSimpArgs false
open Go Go.RowKit

theorem wp_rows2 {P : Program} {c : Code} {Q : Exit → Act → World → Prop} {a : Act} {w : World} {A B : Array Value} {T U : TypeId}
    (h : ∀ W, Keeps w W → Row W w.heap.size 0 A.toList → Row W (w.heap.size + 1) 0 B.toList → W.heap.size = w.heap.size + 2 → Code.wp P c Q a W) :
    Code.wp P c Q a ((w.alloc (.cells A T)).alloc (.cells B U)) := by
  have h0 := Row.new (w := w) A.toList A T (by simp)
  have h1 := Row.new (w := w.alloc (.cells A T)) B.toList B U (by simp)
  refine h _ (keeps_alloc (keeps_alloc (Keeps.refl w) _) _) (h0.alloc _) ?_ (by simp)
  simpa using h1
end Go.Proofs.YtcodpdpeklammaaDoor
