/- The reference's Witnessed, Inputs, Outputs, Encode. -/
import Derived.Test.YtcodpdpeklammaaDoorGB0
import Derived.Test.YtcodpdpeklammaaDoorGA4
namespace Go.Proofs.YtcodpdpeklammaaDoor
set_option linter.unusedVariables false
set_option linter.unusedSimpArgs false
open Go Go.RowKit

theorem sz_h32 (l : List Int) (h : l.length = 32) : (Tryd.prog.info? 27).map (·.size) = some (l.map (Value.int .u8)).length := by rw [List.length_map, h]; kernel_rfl
theorem tx_boxed {w : World} {T : TypeId} {vs : List Value} : Keeps w (w.alloc (.cells vs.toArray T)) := keeps_alloc (Keeps.refl w) _
set_option maxRecDepth 100000 in
set_option maxHeartbeats 1000000 in
theorem rwitnessed_any (S T R : Nat → Prop) (d : TxD) (iv ov : Value) (w : World) (h : RTx S T R w iv ov d) :
    Calls Tryd.prog 49 #[.agg #[.int .i32 d.ver, iv, ov, .int .u32 d.lock]] w fun e w' => e = .returned (.bool (witnessedD d)) ∧ Keeps w w' := by
  have HI := Lib.hid h.ins
  obtain ⟨ia, ic, rfl, hic, hicm, -⟩ := h.ins.any
  obtain ⟨oa, oc, rfl, -⟩ := h.outs.any
  have hsm : d.ins.length * 96 ≤ 140737488355328 := by obtain ⟨_, _, h⟩ := h.ins; exact h.small
  clear h
  go_enter Tryd.func49, Tryd.ntmps49
  go_upto_region 1 with (fail)
  refine wp_rows1 (fun W0 hk hr1 hsz => ?_)
  simp only at hr1
  obtain ⟨p, hp⟩ : ∃ p, p = w.heap.size := ⟨_, rfl⟩
  rw [← hp] at hr1 ⊢
  clear hp hsz
  obtain ⟨b0, b1, b2, b3⟩ := hr1.cell4
  have HK := Lib.hid hk
  clear hk hr1
  go_wp2
  go_loopw [3] (fun c wr => ∃ i : Nat, i ≤ d.ins.length ∧ c = .int .i64 i ∧ wr = W0 ∧ ∀ k x, k < i → d.ins[k]? = some x → x.wit.length = 0) (fun c _ => (d.ins.length - intOf c).toNat)
  case atStart => exact ⟨0, by omega, rfl, rfl, fun k x hk _ => by omega⟩
  case round =>
    obtain ⟨i, hi, rfl, rfl, hall⟩ := hrel
    by_cases hlt : i < d.ins.length
    · obtain ⟨g, off, sv, wv, di, rfl, hg, hdi, hrow, hrin⟩ := (HI.out.keeps HK.out).at i hlt
      obtain ⟨c32, c33, c34, c35⟩ := at_index hrow hrin.ok.hashLen
      obtain ⟨wa, wc, rfl, -⟩ := hrin.wit.any
      have HALL := Lib.hid hall; have HDI := Lib.hid hdi
      clear hall hdi hrow hrin
      by_cases hw : 0 < di.wit.length
      · go_wp2
        go_ret
        refine ⟨?_, HK.out⟩
        rw [show witnessedD d = true from any_true_at _ _ i di HDI.out (by simpa using hw)]
        rfl
      · go_wp2
        go_roundw
        case rel =>
          refine ⟨i + 1, by omega, by go_num, by first | rfl | trivial, fun k x hk hx => ?_⟩
          by_cases hki : k = i
          · subst hki; rw [HDI.out] at hx; cases hx; omega
          · exact HALL.out k x (by omega) hx
        case measure => simp [intOf]; omega
    · have HALL := Lib.hid hall
      clear hall
      go_wp2
      go_ret
      refine ⟨?_, HK.out⟩
      have e : witnessedD d = false := any_false_upto _ _ (fun k x hx => by
        have := HALL.out k x (by have := (List.getElem?_eq_some_iff.1 hx).1; omega) hx
        simp [this])
      rw [e]
      rfl
/-- where a slice of bytes of one's own stands, of a known list -/
theorem Own.cast {w W : World} {v : Value} {n m : Nat} {l r : List Int} (h : Own w W v n l) (e : l = r) (e2 : n = m) : Own w W v m r := by subst e e2; exact h
end Go.Proofs.YtcodpdpeklammaaDoor
