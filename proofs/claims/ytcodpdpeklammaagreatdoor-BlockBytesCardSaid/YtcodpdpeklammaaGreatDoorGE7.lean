/- BlockBytes returns true for every input and leaves its arguments as they were: the row, and its tied card. No condition but the row's own: the library's tables hold what the program's text lays. -/
import Derived.Test.YtcodpdpeklammaaGreatDoorGE5
import Derived.Test.YtcodpdpeklammaaGreatDoorGE6
import Derived.Test.YtcodpdpeklammaaGreatDoorCards
import Derived.Test.YtcodpdpeklammaaGreatDoorTie
import Derived.ChangeOld
import Derived.SevenTiedAt
namespace Go.Proofs.YtcodpdpeklammaaGreatDoor.blockBytesDone
set_option linter.unusedVariables false
set_option linter.unusedSimpArgs false
open Go Go.RowKit Go.ChangeShapes Go.WideShapes Go.ChangeAt
set_option linter.unusedVariables false

theorem laid_met (os : Os) (args : Array Value) : laidMetH Tryz.prog Rows.blockBytesRow.laid ((World.laidAll Tryz.prog os Rows.blockBytesRow.laid).forCall (fun _ _ => 0) ⟨#[], args, []⟩).memory := by
  rw [MakeChecks.laidMetH_plain _ _ _ (by kernel_rfl)]; exact laidMet_laidAll _ (by kernel_rfl) (by kernel_rfl)
set_option maxRecDepth 100000 in
theorem lifted (os : Os) (started : os.Started) (H : Type) (enc : TypeId × Value → H) :
    ReturnsInHanded {} Tryz.checked os 3 .any (fun w args => (Rows.blockBytesSpec.pre enc Tryz.prog Tryz.f3 [] false w args ∧ laidMetH Tryz.prog Rows.blockBytesRow.laid w) ∧ sizedMet enc Tryz.prog Tryz.f3 (OpenSpec.ofChange Rows.blockBytesSpec) false w args)
      (Rows.blockBytesSpec.post enc Tryz.prog Tryz.f3 false true false false) := by
  refine returnsInHanded_of_change_and (C := Tryz.checked) (X := fun w _ => laidMetH Tryz.prog Rows.blockBytesRow.laid w) (fun _ _ _ hh h => h.of_heap hh) own started (by kernel_rfl) Tryz.func3
    (ChangeSpec.witness_shaped (enc := enc) (C := Tryz.checked) (os := os) (X := fun w _ => laidMetH Tryz.prog Rows.blockBytesRow.laid w) false (World.laidAll Tryz.prog os Rows.blockBytesRow.laid) #[.agg (headCells 0 (List.replicate 32 0) (List.replicate 32 0) 0 0 0 ++ [Value.slice none 0 0]).toArray] 8 (World.laidAll_os _ _ _) (World.shaped_of_ZipB (by kernel_rfl) (by kernel_rfl)) (by kernel_rfl) (by kernel_rfl) (by kernel_rfl) (laid_met os _)) ?_
  intro W base args ds gs before hval0 hW _ hsz0 hL _
  have hval : ∀ (j : Nat) t v, Tryz.f3.params[j]? = some t → args[j]? = some v → Value.okWide Tryz.prog W .any base t v := hval0
  have hsz : (DataW.weightsEach Tryz.prog (Tryz.f3.params.toList ++ Rows.blockBytesSpec.plain.varTypes Tryz.prog) (ds ++ gs)).all (· ≤ reachBytes) = true := hsz0
  have hW' := hW
  obtain ⟨p, q, hA0, hV, rfl, hfz, hnd⟩ := hW
  have hA : DataW.TrodAll enc Tryz.prog W 0 (fun _ => true) true Tryz.f3.params.toList args.toList ds p := hA0
  rw [Tryz.params3] at hA hval hsz
  obtain ⟨v0, vs0, d0, ds0, p0, q0, hargs, rfl, rfl, h0, r0⟩ := trodAll_cons hA
  obtain ⟨rfl, rfl, rfl⟩ := trodAll_nil r0
  obtain rfl : args = #[v0] := by cases args; simp_all
  obtain ⟨rfl, rfl⟩ := trodVars_none hV
  simp only [List.append_nil] at hW' hfz
  have hlt : ∀ x ∈ p0, x.block < W.heap.size := fun x hx => hW'.lt x hx
  obtain ⟨cs, rfl, hcs⟩ := okWide_struct Tryz.underlying29 (hval 0 29 v0 rfl rfl)
  have hl0 : ∀ k ∈ d0.weights Tryz.prog 29, k ≤ reachBytes := fun k hk => by
    have := List.all_eq_true.1 hsz k (DataW.weights_mem_each (j := 0) rfl rfl k hk)
    simpa using this
  obtain ⟨ver, prev, mk, t, b, k, tv, l, hcells, hok, hrt⟩ : ∃ ver prev merkle t b k tv l, cs.toList = headCells ver prev merkle t b k ++ [tv] ∧ HeadOk ver prev merkle t b k ∧ RTxs AnyB AnyB AnyB W tv l := by
    obtain ⟨fu, hf⟩ := h0
    exact Trd.block (n := fu) (x := (d0, p0)) (ps := p0) ⟨hf, fun x hx => hx, hl0⟩ hfz
  obtain rfl : cs = (headCells ver prev mk t b k ++ [tv]).toArray := by rw [← Array.toArray_toList (xs := cs), hcells]
  refine (blkbytes_any ⟨ver, prev, mk, t, b, k⟩ ⟨hok.ver, hok.prevLen, hok.prev, hok.merkleLen, hok.merkle, hok.time, hok.bits, hok.nonce⟩ tv l W hrt).mono fun e W' ⟨he, bel⟩ => ?_
  subst he
  exact ⟨_, rfl, _, _, _, [], _, [], hW', trodAll_mk1 (shut_bool Tryz.underlying4 _),
    (trodAll_cons_mk (Below.trod laidOut (by kernel_rfl) (of_decide_eq_true (by kernel_rfl)) h0 bel (fun x hx => hlt x hx)) trodAll_mk0), rfl, bel.frame _, fun h => by cases h⟩

theorem row_holds : Rows.BlockBytesSaid :=
  OpenClaim.holds_of_wide 3 Tryz.f3 rfl rfl rfl rfl rfl rfl rfl ⟨rfl, rfl, rfl, rfl, rfl⟩ rfl rfl rfl rfl rfl (by kernel_rfl) Tryz.func3 (by kernel_rfl)
    (of_decide_eq_true (by kernel_rfl)) (by unfold Func.isWrapper; first | (rw [if_pos (by decide +kernel)]; kernel_rfl) | (rw [if_neg (by decide +kernel)]; exact ⟨rfl, rfl⟩))
    (fun os started H enc _ => lifted os started H enc)

theorem card_holds : Rows.BlockBytesCardSaid :=
  Claim7.holds_tied_plain_at .later [] [.data, .pinned] true Rows.blockBytesCard.stood.harness true
    row_holds (fun _ h => by cases h) (by kernel_rfl) (fun _ h => by cases h) blockBytes_row_tie rfl ⟨rfl, rfl⟩ (by kernel_rfl) rfl
    (fun f fn hf hfn => by
      obtain rfl : f = 3 := Option.some.inj ((show Tryz.prog.funcNamed Rows.blockBytesRow.func = some 3 by kernel_rfl).symm.trans hf) |>.symm
      obtain rfl : fn = Tryz.f3 := (Option.some.inj (Tryz.func3.symm.trans hfn)).symm
      exact ⟨by kernel_rfl, fun j t ht => by
        rw [Tryz.params3] at ht
        have hm : t ∈ [29] := by simpa using Array.mem_of_getElem? ht
        have hall : ([29].all fun u => !Tryz.prog.wantsStandIn u) = true := by kernel_rfl
        exact (show Tryz.prog.wantsStandIn t = false by simpa using List.all_eq_true.1 hall t hm)⟩)
    (by kernel_rfl)
#print axioms card_holds
end Go.Proofs.YtcodpdpeklammaaGreatDoor.blockBytesDone
