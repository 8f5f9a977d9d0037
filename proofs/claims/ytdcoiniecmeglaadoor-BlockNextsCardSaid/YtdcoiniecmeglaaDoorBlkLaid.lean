/- What the claims of this seat share: a number that came in; the start that meets the rows' condition. -/
import Derived.Test.YtdcoiniecmeglaaDoorBlkAwake
import Derived.Test.YtdcoiniecmeglaaDoorRows
import Derived.ProofKit
import Derived.LaidMore
import Derived.OpenShut
import Derived.Stop.Joined
import Derived.Lay
import Derived.Handy
import Derived.WideKeyArr2
import Derived.ChangeMaps5
namespace Go.Proofs.YtdcoiniecmeglaaDoor
set_option linter.unusedVariables false
set_option linter.unusedSimpArgs false
open Go Go.RowKit Go.ChangeShapes Go.WideShapes Go.ChangeAt Go.WideMaps Go.ChangeMaps

theorem own : ownKnob Tryd.prog.godebug = none := by kernel_rfl
theorem laidOut : laidOutB Tryd.prog = true := by kernel_rfl
theorem laid_met (os : Os) (args : Array Value) : laidMetH Tryd.prog Rows.blockNumbersRow.laid ((World.laidAll Tryd.prog os Rows.blockNumbersRow.laid).forCall (fun _ _ => 0) ⟨#[], args, []⟩).memory := by
  rw [MakeChecks.laidMetH_plain _ _ _ (by kernel_rfl)]; exact laidMet_laidAll _ (by kernel_rfl) (by kernel_rfl)
theorem arrNumber : ArrKey Tryd.prog 23 5 32 := ⟨by kernel_rfl, by kernel_rfl, by kernel_rfl, by kernel_rfl⟩
theorem someTypes : ∃ m, Tryd.prog.types.size = m + 1 := ⟨Tryd.prog.types.size - 1, by have : 0 < Tryd.prog.types.size := of_decide_eq_true (by kernel_rfl); omega⟩
theorem mapM_some {α β : Type} (f : α → Option β) : ∀ (L : List α) (xs : List β), L.mapM f = some xs → ∀ i ∈ L, ∃ y, f i = some y
  | [], _, _, i, hi => by simp at hi
  | a :: L, xs, h, i, hi => by
    rw [List.mapM_cons] at h
    simp only [bind, Option.bind_eq_some_iff, pure, Option.some.injEq] at h
    obtain ⟨y, hy, ys, hys, rfl⟩ := h
    rcases List.mem_cons.1 hi with rfl | hi
    · exact ⟨y, hy⟩
    · exact mapM_some f L ys hys i hi
set_option maxRecDepth 100000 in
/-- a number that came in -/
theorem number_arg {H : Type} {enc : TypeId × Value → H} {W : World} {base : Nat} {v : Value} {d : DataW H} {p : List MemPlace} (hv : Value.okWide Tryd.prog W .any base 23 v) (h : DataW.Trod enc Tryd.prog W 0 (fun _ => true) true 23 v d p) :
    ∃ zs : List Int, v = .agg (zs.map (Value.int .u8)).toArray ∧ zs.length = 32 ∧ (∀ x ∈ zs, 0 ≤ x ∧ x < 256) ∧ p = [] := by
  obtain ⟨xs, rfl, hn⟩ := okWide_arr arrNumber hv
  obtain ⟨_, _, hp, _⟩ := open_arr arrNumber Tryd.underlying5 someTypes hn h
  obtain ⟨fuel, hf⟩ := h
  cases fuel with
  | zero => simp [DataW.trod] at hf
  | succ m =>
    rw [DataW.trod_step] at hf
    unfold DataW.trodStep at hf
    simp only [arrNumber.hu, Value.cells] at hf
    rw [if_pos (by rw [arrNumber.size]; simpa using hn)] at hf
    simp only [Option.map_eq_some_iff] at hf
    obtain ⟨ys, hy, _⟩ := hf
    have hall : ∀ i, i < 32 → ∃ a, xs.toList[i]? = some (Value.int .u8 a) ∧ 0 ≤ a ∧ a < 256 := fun i hi => by
      obtain ⟨y, hy2⟩ := mapM_some _ _ _ hy i (List.mem_range.2 hi)
      obtain ⟨a, ea, _, wa⟩ := DataW.trod_int Tryd.underlying5 hy2
      rw [arrNumber.one, Nat.mul_one] at ea
      have h0 : ((xs.toList.drop i).take 1)[0]? = some (Value.int .u8 a) := by rw [ea]; rfl
      rw [List.getElem?_take] at h0
      simp at h0
      have hb := bounds_u8 wa
      exact ⟨a, by simpa using h0, by omega, by omega⟩
    refine ⟨xs.toList.map fun v => match v with | .int _ x => x | _ => 0, ?_, by simpa using hn, ?_, hp⟩
    · congr 1
      apply Array.ext'
      apply List.ext_getElem?
      intro i
      by_cases hi : i < 32
      · obtain ⟨a, ha, _⟩ := hall i hi
        rw [ha]
        simp only [List.map_map, List.getElem?_map, ha, Option.map_some, Function.comp]
      · rw [List.getElem?_eq_none (by simp; omega), List.getElem?_eq_none (by simp; omega)]
    · intro x hx
      obtain ⟨v, hv2, rfl⟩ := List.mem_map.1 hx
      obtain ⟨i, hi, e⟩ := List.getElem_of_mem hv2
      obtain ⟨a, ha, h1, h2⟩ := hall i (by simpa [hn] using hi)
      have : xs.toList[i]? = some v := by rw [List.getElem?_eq_getElem hi, e]
      rw [this] at ha
      cases ha
      exact ⟨h1, h2⟩
end Go.Proofs.YtdcoiniecmeglaaDoor
