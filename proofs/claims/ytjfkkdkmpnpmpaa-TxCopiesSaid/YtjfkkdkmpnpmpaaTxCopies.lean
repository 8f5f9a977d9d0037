/- TxCopies returns true for every input and leaves its arguments as they were. No condition. -/
import Derived.Test.YtjfkkdkmpnpmpaaTxCopL
import Derived.Test.YtjfkkdkmpnpmpaaTxLift
namespace Go.Proofs.Ytjfkkdkmpnpmpaa.txCopiesDone
set_option linter.unusedVariables false
set_option linter.unusedSimpArgs false
open Go Go.RowKit Go.ChangeShapes Go.WideShapes Go.ChangeAt
set_option linter.unusedVariables false

set_option maxRecDepth 100000 in
theorem lifted (os : Os) (started : os.Started) (H : Type) (enc : TypeId × Value → H) :
    ReturnsInHanded {} Try.checked os 4 .any (Rows.txCopiesSpec.pre6 enc Try.prog Try.f4 Rows.txCopiesRow.domain false) (Rows.txCopiesSpec.post enc Try.prog Try.f4 false true false false) := by
  refine returnsInHanded_of_change_sized (C := Try.checked) own started (by kernel_rfl) Try.func4
    (ChangeSpec.witness6 (enc := enc) (C := Try.checked) false ⟨#[], #[.agg #[.int .i32 0, .slice none 0 0, .slice none 0 0, .int .u32 0], .agg #[.int .i32 0, .slice none 0 0, .slice none 0 0, .int .u32 0]], []⟩ 8 (by kernel_rfl) (by kernel_rfl) (by kernel_rfl) (by kernel_rfl)) ?_
  intro W base args ds gs before hval0 hW hcnd0 hsz0 _
  have hval : ∀ (j : Nat) t v, Try.f4.params[j]? = some t → args[j]? = some v → Value.okWide Try.prog W .any base t v := hval0
  have hsz : (DataW.weightsEach Try.prog (Try.f4.params.toList ++ Rows.txCopiesSpec.plain.varTypes Try.prog) (ds ++ gs)).all (· ≤ reachBytes) = true := hsz0
  have hW' := hW
  obtain ⟨p, q, hA0, hV, rfl, hfz, hnd⟩ := hW
  have hA : DataW.TrodAll enc Try.prog W 0 (fun _ => true) true Try.f4.params.toList args.toList ds p := hA0
  rw [Try.params4] at hA hval hsz
  obtain ⟨v0, vs0, d0, ds0, p0, q0, hargs, rfl, rfl, h0, r0⟩ := trodAll_cons hA
  obtain ⟨v1, vs1, d1, ds1, p1, q1, rfl, rfl, rfl, h1, r1⟩ := trodAll_cons r0
  obtain ⟨rfl, rfl, rfl⟩ := trodAll_nil r1
  obtain rfl : args = #[v0, v1] := by cases args; simp_all
  obtain ⟨rfl, rfl⟩ := trodVars_none hV
  simp only [List.append_nil] at hW' hfz
  have hlt : ∀ x ∈ p0 ++ p1, x.block < W.heap.size := fun x hx => hW'.lt x hx
  obtain ⟨cs, rfl, hcs⟩ := okWide_struct Try.underlying26 (hval 0 26 v0 rfl rfl)
  obtain ⟨cs1, rfl, hcs1⟩ := okWide_struct Try.underlying26 (hval 1 26 v1 rfl rfl)
  have hlite : ∀ k ∈ d0.weights Try.prog 26, k ≤ reachBytes := fun k hk => by
    have := List.all_eq_true.1 hsz k (DataW.weights_mem_each (j := 0) rfl rfl k hk)
    simpa using this
  have hlite1 : ∀ k ∈ d1.weights Try.prog 26, k ≤ reachBytes := fun k hk => by
    have := List.all_eq_true.1 hsz k (DataW.weights_mem_each (j := 1) rfl rfl k hk)
    simpa using this
  obtain ⟨D, iv, ov, hcells, hrt⟩ : ∃ D iv ov, cs.toList = [.int .i32 D.ver, iv, ov, .int .u32 D.lock] ∧ RTx AnyB AnyB AnyB W iv ov D := by
    obtain ⟨fu, hf⟩ := h0
    exact Trd.tx (n := fu) (x := (d0, p0)) (ps := p0 ++ p1) ⟨hf, fun x hx => List.mem_append_left _ hx, hlite⟩ hfz
  obtain ⟨E, iv1, ov1, hcells1, hrt1⟩ : ∃ D iv ov, cs1.toList = [.int .i32 D.ver, iv, ov, .int .u32 D.lock] ∧ RTx AnyB AnyB AnyB W iv ov D := by
    obtain ⟨fu, hf⟩ := h1
    exact Trd.tx (n := fu) (x := (d1, p1)) (ps := p0 ++ p1) ⟨hf, fun x hx => List.mem_append_right _ hx, hlite1⟩ hfz
  obtain rfl : cs = #[.int .i32 D.ver, iv, ov, .int .u32 D.lock] := by rw [← Array.toArray_toList (xs := cs), hcells]
  obtain rfl : cs1 = #[.int .i32 E.ver, iv1, ov1, .int .u32 E.lock] := by rw [← Array.toArray_toList (xs := cs1), hcells1]
  refine (copies_any D E iv ov iv1 ov1 W hrt hrt1).mono fun e W' ⟨he, bel⟩ => ?_
  subst he
  exact ⟨_, rfl, _, _, _, [], _, [], hW', trodAll_mk1 (shut_bool Try.underlying4 _),
      (trodAll_cons_mk (Below.trod laidOut (by kernel_rfl) (of_decide_eq_true (by kernel_rfl)) h0 bel (fun x hx => hlt x (List.mem_append_left _ hx))) (trodAll_cons_mk (Below.trod laidOut (by kernel_rfl) (of_decide_eq_true (by kernel_rfl)) h1 bel (fun x hx => hlt x (List.mem_append_right _ hx))) trodAll_mk0)), rfl, bel.frame _, fun h => by cases h⟩
theorem row_holds : Rows.TxCopiesSaid :=
  OpenClaim.holds_of_wide 4 Try.f4 rfl rfl rfl rfl rfl rfl rfl ⟨rfl, rfl, rfl, rfl, rfl⟩ rfl rfl rfl rfl rfl (by kernel_rfl) Try.func4 (by kernel_rfl)
    (of_decide_eq_true (by kernel_rfl)) (by unfold Func.isWrapper; first | (rw [if_pos (by decide +kernel)]; kernel_rfl) | (rw [if_neg (by decide +kernel)]; exact ⟨rfl, rfl⟩))
    (fun os started H enc _ => lifted os started H enc)
#print axioms row_holds
end Go.Proofs.Ytjfkkdkmpnpmpaa.txCopiesDone
