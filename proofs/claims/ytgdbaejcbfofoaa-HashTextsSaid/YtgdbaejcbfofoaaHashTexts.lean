/- HashTexts returns true for every input. No condition. -/
import Derived.Test.YtgdbaejcbfofoaaTexts
import Derived.Test.YtgdbaejcbfofoaaLift
import Derived.WideKeyArr2
import Derived.ChangeMaps5
namespace Go.Proofs.Ytgdbaejcbfofoaa.hashTextsDone
set_option linter.unusedVariables false
set_option linter.unusedSimpArgs false
open Go Go.RowKit Go.ChangeShapes Go.WideShapes Go.ChangeAt Go.WideMaps Go.ChangeMaps
set_option linter.unusedVariables false

theorem arrHash : ArrKey Try.prog 37 5 32 := ⟨by kernel_rfl, by kernel_rfl, by kernel_rfl, by kernel_rfl⟩
theorem someTypes : ∃ m, Try.prog.types.size = m + 1 := ⟨Try.prog.types.size - 1, by have : 0 < Try.prog.types.size := of_decide_eq_true (by kernel_rfl); omega⟩
theorem mapM_some {α β : Type} (f : α → Option β) : ∀ (L : List α) (xs : List β), L.mapM f = some xs → ∀ i ∈ L, ∃ y, f i = some y
  | [], _, _, i, hi => by simp at hi
  | a :: L, xs, h, i, hi => by
    rw [List.mapM_cons] at h
    simp only [bind, Option.bind_eq_some_iff, pure, Option.some.injEq] at h
    obtain ⟨y, hy, ys, hys, rfl⟩ := h
    rcases List.mem_cons.1 hi with rfl | hi
    · exact ⟨y, hy⟩
    · exact mapM_some f L ys hys i hi
set_option maxRecDepth 100000 in
/-- a digest that came in -/
theorem hash_arg {H : Type} {enc : TypeId × Value → H} {W : World} {base : Nat} {v : Value} {d : DataW H} {p : List MemPlace} (hv : Value.okWide Try.prog W .any base 37 v) (h : DataW.Trod enc Try.prog W 0 (fun _ => true) true 37 v d p) :
    ∃ zs : List Int, v = .agg (zs.map (Value.int .u8)).toArray ∧ zs.length = 32 ∧ (∀ x ∈ zs, 0 ≤ x ∧ x < 256) ∧ p = [] := by
  obtain ⟨xs, rfl, hn⟩ := okWide_arr arrHash hv
  obtain ⟨_, _, hp, _⟩ := open_arr arrHash Try.underlying5 someTypes hn h
  obtain ⟨fuel, hf⟩ := h
  cases fuel with
  | zero => simp [DataW.trod] at hf
  | succ m =>
    rw [DataW.trod_step] at hf
    unfold DataW.trodStep at hf
    simp only [arrHash.hu, Value.cells] at hf
    rw [if_pos (by rw [arrHash.size]; simpa using hn)] at hf
    simp only [Option.map_eq_some_iff] at hf
    obtain ⟨ys, hy, _⟩ := hf
    have hall : ∀ i, i < 32 → ∃ a, xs.toList[i]? = some (Value.int .u8 a) ∧ 0 ≤ a ∧ a < 256 := fun i hi => by
      obtain ⟨y, hy2⟩ := mapM_some _ _ _ hy i (List.mem_range.2 hi)
      obtain ⟨a, ea, _, wa⟩ := DataW.trod_int Try.underlying5 hy2
      rw [arrHash.one, Nat.mul_one] at ea
      have h0 : ((xs.toList.drop i).take 1)[0]? = some (Value.int .u8 a) := by rw [ea]; rfl
      rw [List.getElem?_take] at h0
      simp at h0
      have hb := bounds_u8 wa
      exact ⟨a, by simpa using h0, by omega, by omega⟩
    refine ⟨xs.toList.map fun v => match v with | .int _ x => x | _ => 0, ?_, by simpa using hn, ?_, hp⟩
    · congr 1
      apply Array.ext'
      apply List.ext_getElem?
      intro i
      by_cases hi : i < 32
      · obtain ⟨a, ha, _⟩ := hall i hi
        rw [ha]
        simp only [List.map_map, List.getElem?_map, ha, Option.map_some, Function.comp]
      · rw [List.getElem?_eq_none (by simp; omega), List.getElem?_eq_none (by simp; omega)]
    · intro x hx
      obtain ⟨v, hv2, rfl⟩ := List.mem_map.1 hx
      obtain ⟨i, hi, e⟩ := List.getElem_of_mem hv2
      obtain ⟨a, ha, h1, h2⟩ := hall i (by simpa [hn] using hi)
      have : xs.toList[i]? = some v := by rw [List.getElem?_eq_getElem hi, e]
      rw [this] at ha
      cases ha
      exact ⟨h1, h2⟩
set_option maxRecDepth 100000 in
theorem lifted (os : Os) (started : os.Started) (H : Type) (enc : TypeId × Value → H) :
    ReturnsInHanded {} Try.checked os 4 .any (Rows.hashTextsSpec.pre6 enc Try.prog Try.f4 Rows.hashTextsRow.domain false) (Rows.hashTextsSpec.post enc Try.prog Try.f4 false true false false) := by
  refine returnsInHanded_of_change (C := Try.checked) own started (by kernel_rfl) Try.func4
    (ChangeSpec.witness6 (enc := enc) (C := Try.checked) false ⟨#[], #[.agg ((List.replicate 32 (0 : Int)).map (Value.int .u8)).toArray, .string ⟨#[]⟩], []⟩ 8 (by kernel_rfl) (by kernel_rfl) (by kernel_rfl) (by kernel_rfl)) ?_
  intro W base args ds gs before hval0 hW hcnd0 _
  have hval : ∀ (j : Nat) t v, Try.f4.params[j]? = some t → args[j]? = some v → Value.okWide Try.prog W .any base t v := hval0
  have hW' := hW
  obtain ⟨p, q, hA0, hV, rfl, hfz, hnd⟩ := hW
  have hA : DataW.TrodAll enc Try.prog W 0 (fun _ => true) true Try.f4.params.toList args.toList ds p := hA0
  rw [Try.params4] at hA hval
  obtain ⟨v0, vs0, d0, ds0, p0, q0, hargs, rfl, rfl, h0, r0⟩ := trodAll_cons hA
  obtain ⟨v1, vs1, d1, ds1, p1, q1, rfl, rfl, rfl, h1, r1⟩ := trodAll_cons r0
  obtain ⟨rfl, rfl, rfl⟩ := trodAll_nil r1
  obtain rfl : args = #[v0, v1] := by cases args; simp_all
  obtain ⟨rfl, rfl⟩ := trodVars_none hV
  simp only [List.append_nil] at hW' hfz
  have hlt : ∀ x ∈ p0 ++ p1, x.block < W.heap.size := fun x hx => hW'.lt x hx
  obtain ⟨zs, rfl, hzl, hzs, _⟩ := hash_arg (hval 0 37 v0 rfl rfl) h0
  obtain ⟨s, rfl, _, _, hmax⟩ := open_string Try.underlying9 (hval 1 9 v1 rfl rfl) h1
  refine (texts_any zs hzs hzl s hmax W).mono fun e W' ⟨he, bel⟩ => ?_
  subst he
  exact ⟨_, rfl, _, _, _, [], _, [], hW', trodAll_mk1 (shut_bool Try.underlying4 _),
    (trodAll_cons_mk (Below.trod laidOut (by kernel_rfl) (of_decide_eq_true (by kernel_rfl)) h0 bel (fun x hx => hlt x (List.mem_append_left _ hx))) (trodAll_cons_mk (Below.trod laidOut (by kernel_rfl) (of_decide_eq_true (by kernel_rfl)) h1 bel (fun x hx => hlt x (List.mem_append_right _ hx))) trodAll_mk0)), rfl, bel.frame _, fun h => by cases h⟩
theorem row_holds : Rows.HashTextsSaid :=
  OpenClaim.holds_of_wide 4 Try.f4 rfl rfl rfl rfl rfl rfl rfl ⟨rfl, rfl, rfl, rfl, rfl⟩ rfl rfl rfl rfl rfl (by kernel_rfl) Try.func4 (by kernel_rfl)
    (of_decide_eq_true (by kernel_rfl)) (by unfold Func.isWrapper; first | (rw [if_pos (by decide +kernel)]; kernel_rfl) | (rw [if_neg (by decide +kernel)]; exact ⟨rfl, rfl⟩))
    (fun os started H enc _ => lifted os started H enc)
#print axioms row_holds
end Go.Proofs.Ytgdbaejcbfofoaa.hashTextsDone
