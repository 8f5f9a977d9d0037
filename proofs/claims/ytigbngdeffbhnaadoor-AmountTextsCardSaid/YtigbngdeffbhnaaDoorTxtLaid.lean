/- From the rows' condition 'laid' to the fact that the walks ask of strconv's table; the start that meets the condition. -/
import Derived.Test.YtigbngdeffbhnaaDoorTxtAwake
import Derived.ProofKit
import Derived.LaidMore
import Derived.OpenShut
import Derived.Stop.Joined
namespace Go.Proofs.YtigbngdeffbhnaaDoor
set_option linter.unusedVariables false
set_option linter.unusedSimpArgs false
open Go Go.RowKit Go.ChangeShapes Go.WideShapes Go.ChangeAt

theorem own : ownKnob Tryd.prog.godebug = none := by kernel_rfl
theorem laidOut : laidOutB Tryd.prog = true := by kernel_rfl
theorem door_met (os : Os) (args : Array Value) : laidMetH Tryd.prog Rows.amountTextsRow.laid ((World.doorLaid Tryd.prog 400 os).forCall (fun _ _ => 0) ⟨#[], args, []⟩).memory :=
  laidMetH_of_parts3 (fuel := 8) (laidMet_of_run' 8 (by kernel_rfl) (by kernel_rfl)) (by kernel_rfl) (by kernel_rfl)
theorem tabTy : (Tryd.prog.globals[0]?).map (·.type) = some 81 := by kernel_rfl
theorem powTab_of_laid {W : World} (h : laidMetH Tryd.prog Rows.amountTextsRow.laid W) : PowTab W := by
  rw [MakeChecks.laidMetH_plain _ _ _ (by kernel_rfl)] at h
  obtain ⟨ps, ⟨g0, t0, cs0, f0, p0, q0, hg0, ht0, hv0, hd0, ⟨g1, t1, cs1, f1, p1, q1, hg1, ht1, hv1, hd1, ⟨g2, t2, cs2, f2, p2, q2, hg2, ht2, hv2, hd2, _, _⟩, _⟩, _⟩, _⟩ := h
  obtain rfl := Option.some.inj (pow10_g.symm.trans hg2)
  obtain rfl := Option.some.inj (tabTy.symm.trans ht2)
  unfold PowTab Lib.TabIs
  refine hv2.trans ?_
  have e := Lib.cells_of_tab (k := .u64) (zs := Lib.pow10Tab) Tryd.underlying81 Tryd.underlying61 (by kernel_rfl) (by kernel_rfl) hd2
  rw [← e]
end Go.Proofs.YtigbngdeffbhnaaDoor
