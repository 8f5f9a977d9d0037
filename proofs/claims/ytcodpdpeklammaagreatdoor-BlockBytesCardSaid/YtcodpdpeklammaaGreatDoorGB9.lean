/- slices.ContainsFunc at inputs; tx.witnessed; both Final. -/
import Derived.Test.YtcodpdpeklammaaGreatDoorGB8
namespace Go.Proofs.YtcodpdpeklammaaGreatDoor
set_option linter.unusedVariables false
set_option linter.unusedSimpArgs false
open Go Go.RowKit

def fnWit (di : InD) : Bool := decide (0 < di.wit.length)
theorem cloWit (S T : Nat → Prop) (di : InD) (sv wv : Value) (W : World) (h : RIn S T W sv wv di) :
    Calls Tryz.prog 84 #[.agg (inCells di sv wv).toArray] W fun e w' => e = .returned (.bool (fnWit di)) ∧ Keeps W w' := by
  have hl := h.ok.hashLen
  have hsz := inCells_length di sv wv hl
  have hat : ∀ W' b, Row W' b 0 (inCells di sv wv) → W'.cell? ⟨b, 32, none⟩ = some (.int .u32 di.index) ∧ W'.cell? ⟨b, 33, none⟩ = some sv ∧ W'.cell? ⟨b, 34, none⟩ = some (.int .u32 di.seq) ∧ W'.cell? ⟨b, 35, none⟩ = some wv := fun W' b hr => by
    have := at_index hr hl
    simpa using this
  obtain ⟨wa, wc, rfl, -⟩ := h.wit.any
  have HA := Lib.hid hat
  clear h hat
  unfold fnWit
  generalize inCells di sv (.slice wa di.wit.length wc) = CS at *
  go_enter Tryz.func84, Tryz.ntmps84
  go_upto_region 1 with (fail)
  refine wp_rows1 (fun W0 hk hr1 hs1 => ?_)
  obtain ⟨c1, c2, c3, c4⟩ := HA.out _ _ hr1
  have HK := Lib.hid hk
  clear hk hr1 hs1
  go_wp2
  go_ret
  refine ⟨?_, HK.out⟩
  first | rfl | exact ret_bool (by simp) | exact ret_bool (by by_cases h9 : di.seq = 4294967295 <;> simp [h9])
set_option maxRecDepth 100000 in
set_option maxHeartbeats 1000000 in
theorem indexWit (S T R : Nat → Prop) (l : List InD) (v : Value) (w : World) (h : RInsX S T R w v l) :
    Calls Tryz.prog 115 #[v, .func (.func 84) #[] #[]] w fun e w' => ∃ k : Int, e = .returned (.int .i64 k) ∧ Keeps w w' ∧ ((0 ≤ k ∧ l.any fnWit = true) ∨ (k = -1 ∧ l.any fnWit = false)) := by
  have HI := Lib.hid h; have HF := Lib.hid (cloWit S T)
  obtain ⟨ia, ic, rfl, hic, hicm, -⟩ := h.any
  have hsm : l.length * 96 ≤ 140737488355328 := by obtain ⟨_, _, h⟩ := h; exact h.small
  clear h
  generalize hFF : fnWit = F at *
  clear hFF
  go_enter Tryz.func115, Tryz.ntmps115
  go_wp2
  go_loopw [8] (fun c wr => ∃ i : Nat, i ≤ l.length ∧ c = .int .i64 i ∧ Keeps w wr ∧ ∀ (k : Nat) x, k < i → l[k]? = some x → F x = false) (fun c _ => (l.length - intOf c).toNat)
  case atStart => exact ⟨0, by omega, rfl, Keeps.refl _, fun k x hk _ => by omega⟩
  case round =>
    obtain ⟨i, hi, rfl, hk, hall⟩ := hrel
    by_cases hlt : i < l.length
    · obtain ⟨g, off, sv, wv, di, rfl, hg, hdi, hrow, hrin⟩ := (HI.out.keeps hk).at i hlt
      have HALL := Lib.hid hall; have HDI := Lib.hid hdi; have HROW := Lib.hid hrow; have HRIN := Lib.hid hrin; have HK := Lib.hid hk
      clear hall hdi hrow hrin hk
      cases hw : F di
      focus
        have hf2 := HF.out di sv wv wr HRIN.out
        rw [hw] at hf2
        have HF2 := Lib.hid hf2
        clear hf2
        go_wp2_with (first | (refine wpList_load_at rfl 100 (.tmp 14) rfl g (off + i * 36) rfl _ _ HROW.out Tryz.underlying100 rfl (sz_in _ _ _ HRIN.out.ok.hashLen) ?_) | (go_at_call 84; refine HF2.out.mono ?_; rintro e W2 ⟨rfl, hk2⟩; have HK2 := Lib.hid hk2; clear hk2))
        go_roundw
        case rel =>
          refine ⟨i + 1, by omega, by go_num, HK.out.trans HK2.out, fun k x hk hx => ?_⟩
          by_cases hki : k = i
          · subst hki; rw [HDI.out] at hx; cases hx; exact hw
          · exact HALL.out k x (by omega) hx
        case measure => simp [intOf]; omega
      focus
        have hf2 := HF.out di sv wv wr HRIN.out
        rw [hw] at hf2
        have HF2 := Lib.hid hf2
        clear hf2
        go_wp2_with (first | (refine wpList_load_at rfl 100 (.tmp 14) rfl g (off + i * 36) rfl _ _ HROW.out Tryz.underlying100 rfl (sz_in _ _ _ HRIN.out.ok.hashLen) ?_) | (go_at_call 84; refine HF2.out.mono ?_; rintro e W2 ⟨rfl, hk2⟩; have HK2 := Lib.hid hk2; clear hk2))
        go_ret
        exact ⟨_, rfl, HK.out.trans HK2.out, .inl ⟨by omega, any_true_at F l i di HDI.out hw⟩⟩
    · have HALL := Lib.hid hall; have HK := Lib.hid hk
      clear hall hk
      go_wp2
      go_ret
      exact ⟨_, rfl, HK.out, .inr ⟨rfl, any_false_upto _ _ (fun k x hx => HALL.out k x (by have := (List.getElem?_eq_some_iff.1 hx).1; omega) hx)⟩⟩
theorem containsWit (S T R : Nat → Prop) (l : List InD) (v : Value) (w : World) (h : RInsX S T R w v l) :
    Calls Tryz.prog 83 #[v, .func (.func 84) #[] #[]] w fun e w' => e = .returned (.bool (l.any fnWit)) ∧ Keeps w w' := by
  have HX := Lib.hid (indexWit S T R l v w h)
  obtain ⟨ia, ic, rfl, -⟩ := h.any
  clear h
  go_enter Tryz.func83, Tryz.ntmps83
  go_wp2_with (go_at_call 115; refine HX.out.mono ?_; rintro e W2 ⟨k, rfl, hk2, hkk⟩; have HK2 := Lib.hid hk2; have HKK := Lib.hid hkk; clear hk2 hkk)
  go_ret
  refine ⟨?_, HK2.out⟩
  rcases HKK.out with ⟨h0, h1⟩ | ⟨rfl, h1⟩
  · rw [h1]; exact ret_bool (decide_eq_true h0)
  · rw [h1]; rfl
theorem witnessed_any (S T R : Nat → Prop) (d : TxD) (iv ov : Value) (w : World) (h : RTx S T R w iv ov d) :
    Calls Tryz.prog 53 #[.agg #[.int .i32 d.ver, iv, ov, .int .u32 d.lock]] w fun e w' => e = .returned (.bool (witnessedD d)) ∧ Keeps w w' := by
  have HX := Lib.hid (fun W (hk : Keeps w W) => containsWit S T R d.ins iv W (h.ins.keeps hk))
  have hwd : witnessedD d = d.ins.any fnWit := rfl
  rw [hwd]
  clear hwd
  obtain ⟨ia, ic, rfl, -⟩ := h.ins.any
  obtain ⟨oa, oc, rfl, -⟩ := h.outs.any
  clear h
  generalize d.ins.any fnWit = BW at *
  go_enter Tryz.func53, Tryz.ntmps53
  go_upto_region 1 with (fail)
  refine wp_rows1 (fun W0 hk hr1 hs1 => ?_)
  simp only at hr1
  obtain ⟨b0, b1, b2, b3⟩ := hr1.cell4
  have HK := Lib.hid hk
  clear hk hr1 hs1
  go_wp2_with (go_at_call 83; refine (HX.out _ HK.out).mono ?_; rintro e W2 ⟨rfl, hk2⟩; have HK2 := Lib.hid hk2; clear hk2)
  go_ret
  exact ⟨rfl, HK.out.trans HK2.out⟩
end Go.Proofs.YtcodpdpeklammaaGreatDoor
