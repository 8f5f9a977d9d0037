/- The awake of the statements on amounts returns true, where strconv's table of powers of ten is as the program's text lays it. -/
import Derived.Test.YtigbngdeffbhnaaDoorRows
import Derived.Test.YtigbngdeffbhnaaDoorTxtRef2
import Derived.Test.YtigbngdeffbhnaaDoorShelf
namespace Go.Proofs.YtigbngdeffbhnaaDoor
set_option linter.unusedVariables false
set_option linter.unusedSimpArgs false
open Go Go.RowKit

def pow10Name : String := ((Rows.amountTextsRow.laid.map (·.1))[2]?).getD ""
/-- the table of powers of ten holds what its initialiser lays -/
def PowTab (w : World) : Prop := Lib.TabIs Tryd.prog w pow10Name .u64 Lib.pow10Tab
theorem pow10_g : Tryd.prog.globalNamed pow10Name = some 0 := by kernel_rfl
theorem PowTab.lt {w : World} (h : PowTab w) : 0 < w.heap.size := by
  unfold PowTab Lib.TabIs World.var? at h
  rw [pow10_g] at h
  simp only [Option.bind_some] at h
  by_cases hlt : 0 < w.heap.size
  · exact hlt
  · rw [Array.getElem?_eq_none (by omega)] at h
    simp at h
theorem PowTab.keeps {w w' : World} (h : PowTab w) (hb : Keeps w w') : PowTab w' := var?_below hb pow10_g h.lt h

theorem fmt_10 (n : Int) (h0 : -9223372036854775808 ≤ n) (h1 : n ≤ 9223372036854775807) (w : World) (h : PowTab w) :
    Calls Tryd.prog 12 #[.int .i64 n, .int .i64 10] w fun e w' => e = .returned (.string ⟨(Lib.itoa n).toArray⟩) ∧ Keeps w w' := by
  refine (Any.strconv_FormatInt_10 Tryd.laysM173 n h0 h1 w h).mono ?_
  rintro e w' ⟨rfl, k, os, rfl⟩
  exact ⟨rfl, rfl, rfl, rfl, by simp [Go.Sort.grow], fun i hi => by
    show (w.heap ++ os)[i]? = w.heap[i]?
    rw [Array.getElem?_append_left hi]⟩

theorem itoa_one : Lib.itoa 223456789 = [50, 50, 51, 52, 53, 54, 55, 56, 57] := by decide +kernel
theorem dec_one : Lib.decDigits 1 = [49] := by decide +kernel
theorem fmt_one (w : World) (h : PowTab w) : Calls Tryd.prog 12 #[.int .i64 223456789, .int .i64 10] w fun e w' => e = .returned (.string ⟨#[50, 50, 51, 52, 53, 54, 55, 56, 57]⟩) ∧ Keeps w w' := by
  refine (fmt_10 _ (by omega) (by omega) w h).mono ?_
  rintro e w' ⟨rfl, hk⟩
  exact ⟨by rw [itoa_one], hk⟩
theorem fmt_two (w : World) : Calls Tryd.prog 12 #[.int .i64 1, .int .i64 10] w fun e w' => e = .returned (.string ⟨#[49]⟩) ∧ w' = w := by
  refine (Tryd.strconv_FormatInt_10_small 1 (by omega) w).mono ?_
  rintro e w' ⟨rfl, rfl⟩
  exact ⟨by rw [dec_one], rfl⟩

theorem format_one (w : World) (h : PowTab w) : Calls Tryd.prog 5 #[.int .i64 123456789] w fun e w' => e = .returned (.string ⟨#[49, 46, 50, 51, 52, 53, 54, 55, 56, 57]⟩) ∧ Keeps w w' := by
  have hv : validB 123456789 = true := by decide
  go_enter Tryd.func5, Tryd.ntmps5
  go_wp2_with (first | (go_at_call 11; refine (valid_any _ _).mono ?_; rintro e w' ⟨rfl, rfl⟩) | (go_at_call 12; refine (fmt_one _ h).mono ?_; rintro e w1 ⟨rfl, hk⟩))
  go_quiet ((go_at_call 12; exact Calls.quiet_of_same (fmt_two _)))
  go_wp2
  go_ret
  refine ⟨?_, hk.trans (Qt.keeps ⟨_, rfl⟩)⟩
  exact congrArg (fun b => Ending.returned (Value.string b)) (show (_ : ByteArray) = _ from by decide +kernel)

theorem awake_any (w : World) (h : PowTab w) : Calls Tryd.prog 4 #[] w fun e w' => e = .returned (.bool true) ∧ Keeps w w' := by
  have hf : feeV 1001 250 = 251 := by decide
  have he : feeE 1001 250 = 0 := by decide
  have hv : validB 2100000000000000 = true := by decide
  have hv' : validB (-1) = false := by decide
  have H1 := Lib.hid hf; have H2 := Lib.hid he; clear hf he
  go_enter Tryd.func4, Tryd.ntmps4
  go_wp2_with (first | (go_at_call 11; refine (valid_any _ _).mono ?_; rintro e w' ⟨rfl, rfl⟩) | (go_at_call 10; refine (fee_any _ _ _).mono ?_; rw [H1.out, H2.out]; rintro e w' ⟨rfl, n, rfl⟩) | (go_at_call 5; refine (format_one _ (h.keeps (Qt.drewN _ _).keeps)).mono ?_; rintro e w1 ⟨rfl, hk⟩))
  go_ret
  refine ⟨?_, (Qt.keeps ⟨_, rfl⟩).trans hk⟩
  rfl
end Go.Proofs.YtigbngdeffbhnaaDoor
