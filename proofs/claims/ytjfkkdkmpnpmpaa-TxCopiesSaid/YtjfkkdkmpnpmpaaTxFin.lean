/- Both Final. -/
import Derived.Test.YtjfkkdkmpnpmpaaTxIdx
namespace Go.Proofs.Ytjfkkdkmpnpmpaa
set_option linter.unusedVariables false
set_option linter.unusedSimpArgs false
open Go Go.RowKit

def headFin (d : TxD) (h t : Int) : Bool := decide (d.lock = 0 ∨ (d.lock < 500000000 ∧ d.lock < h) ∨ (500000000 ≤ d.lock ∧ d.lock < t))
def finD (d : TxD) (h t : Int) : Bool := headFin d h t || !(d.ins.any fnSeq)
set_option maxRecDepth 100000 in
set_option maxHeartbeats 2000000 in
theorem final_any (S T R : Nat → Prop) (d : TxD) (iv ov : Value) (h t : Int) (hh : I64 h) (ht : U32 t) (w : World) (hr : RTx S T R w iv ov d) :
    Calls Try.prog 13 #[.agg #[.int .i32 d.ver, iv, ov, .int .u32 d.lock], .int .i64 h, .int .u32 t] w fun e w' => e = .returned (.bool (finD d h t)) ∧ Keeps w w' := by
  have HX := Lib.hid (fun W (hk : Keeps w W) => containsSeq S T R d.ins iv W (hr.ins.keeps hk))
  obtain ⟨lk0, lk1⟩ := hr.lock
  obtain ⟨h0, h1⟩ := hh
  obtain ⟨t0, t1⟩ := ht
  obtain ⟨ia, ic, rfl, -⟩ := hr.ins.any
  obtain ⟨oa, oc, rfl, -⟩ := hr.outs.any
  have hfin : finD d h t = (headFin d h t || !(d.ins.any fnSeq)) := rfl
  have hhd : headFin d h t = decide (d.lock = 0 ∨ (d.lock < 500000000 ∧ d.lock < h) ∨ (500000000 ≤ d.lock ∧ d.lock < t)) := rfl
  generalize d.ins.any fnSeq = BW at *
  have HFIN := Lib.hid hfin; have HHD := Lib.hid hhd
  clear hfin hhd hr
  generalize finD d h t = FB at *
  generalize headFin d h t = HB at *
  have hm1 : IntKind.i64.wrap d.lock = d.lock := by rw [IntKind.wrap_i64]; omega
  by_cases c0 : d.lock = 0
  · have e : FB = true := by rw [HFIN.out, HHD.out]; simp [c0]
    go_enter Try.func13, Try.ntmps13
    go_upto_region 1 with (fail)
    refine wp_rows1 (fun W0 hk hr1 hs1 => ?_)
    simp only at hr1
    obtain ⟨b0, b1, b2, b3⟩ := hr1.cell4
    have HK := Lib.hid hk
    clear hk hr1 hs1
    go_wp2
    go_ret
    exact ⟨by first | rfl | (rw [e]; rfl), HK.out⟩
  · by_cases c1 : d.lock < 500000000 ∧ d.lock < h
    · obtain ⟨c1a, c1b⟩ := c1
      have e : FB = true := by rw [HFIN.out, HHD.out]; simp [c1a, c1b]
      go_enter Try.func13, Try.ntmps13
      go_upto_region 1 with (fail)
      refine wp_rows1 (fun W0 hk hr1 hs1 => ?_)
      simp only at hr1
      obtain ⟨b0, b1, b2, b3⟩ := hr1.cell4
      have HK := Lib.hid hk
      clear hk hr1 hs1
      go_wp2
      go_ret
      exact ⟨by first | rfl | (rw [e]; rfl), HK.out⟩
    · by_cases c2 : 500000000 ≤ d.lock ∧ d.lock < t
      · obtain ⟨c2a, c2b⟩ := c2
        have c2c : ¬ d.lock < 500000000 := by omega
        have e : FB = true := by rw [HFIN.out, HHD.out]; simp [c2a, c2b]
        go_enter Try.func13, Try.ntmps13
        go_upto_region 1 with (fail)
        refine wp_rows1 (fun W0 hk hr1 hs1 => ?_)
        simp only at hr1
        obtain ⟨b0, b1, b2, b3⟩ := hr1.cell4
        have HK := Lib.hid hk
        clear hk hr1 hs1
        go_wp2
        go_ret
        exact ⟨by first | rfl | (rw [e]; rfl), HK.out⟩
      · have e : FB = !BW := by
          rw [HFIN.out, HHD.out, decide_eq_false (by rintro (x | x | x); exact c0 x; exact c1 x; exact c2 x)]
          rfl
        have hsplit : (d.lock < 500000000 ∧ ¬ d.lock < h) ∨ (¬ d.lock < 500000000 ∧ ¬ d.lock < t) := by omega
        clear c1 c2
        rcases hsplit with ⟨c3, c4⟩ | ⟨c3, c4⟩
        all_goals
          first
            | (have c5 : ¬ 500000000 ≤ d.lock := by omega)
            | (have c5 : 500000000 ≤ d.lock := by omega)
          go_enter Try.func13, Try.ntmps13
          go_upto_region 1 with (fail)
          refine wp_rows1 (fun W0 hk hr1 hs1 => ?_)
          simp only at hr1
          obtain ⟨b0, b1, b2, b3⟩ := hr1.cell4
          have HK := Lib.hid hk
          clear hk hr1 hs1
          go_wp2_with (go_at_call 37; refine (HX.out _ HK.out).mono ?_; rintro e W2 ⟨rfl, hk2⟩; have HK2 := Lib.hid hk2; clear hk2)
          go_ret
          exact ⟨by first | rfl | (rw [e]; rfl) | (rw [e]; simp), HK.out.trans HK2.out⟩
set_option maxRecDepth 100000 in
set_option maxHeartbeats 2000000 in
theorem rfinal_any (S T R : Nat → Prop) (d : TxD) (iv ov : Value) (h t : Int) (hh : I64 h) (ht : U32 t) (w : World) (hr : RTx S T R w iv ov d) :
    Calls Try.prog 14 #[.agg #[.int .i32 d.ver, iv, ov, .int .u32 d.lock], .int .i64 h, .int .u32 t] w fun e w' => e = .returned (.bool (finD d h t)) ∧ Keeps w w' := by
  have HI := Lib.hid hr.ins
  obtain ⟨lk0, lk1⟩ := hr.lock
  obtain ⟨h0, h1⟩ := hh
  obtain ⟨t0, t1⟩ := ht
  obtain ⟨ia, ic, rfl, hic, hicm, -⟩ := hr.ins.any
  obtain ⟨oa, oc, rfl, -⟩ := hr.outs.any
  have hsm : d.ins.length * 96 ≤ 140737488355328 := by obtain ⟨_, _, h⟩ := hr.ins; exact h.small
  have HFIN := Lib.hid (show finD d h t = (headFin d h t || !(d.ins.any fnSeq)) from rfl)
  have HHD := Lib.hid (show headFin d h t = decide (d.lock = 0 ∨ (d.lock < 500000000 ∧ d.lock < h) ∨ (500000000 ≤ d.lock ∧ d.lock < t)) from rfl)
  clear hr
  generalize finD d h t = FB at *
  generalize headFin d h t = HB at *
  have hm1 : IntKind.u64.wrap d.lock = d.lock := by rw [IntKind.wrap_u64]; omega
  have loop : (¬ d.lock = 0) → (¬ (d.lock < 500000000 ∧ d.lock < h)) → (¬ (500000000 ≤ d.lock ∧ d.lock < t)) → FB = !(d.ins.any fnSeq) := fun c0 c1 c2 => by
    rw [HFIN.out, HHD.out, decide_eq_false (by rintro (x | x | x); exact c0 x; exact c1 x; exact c2 x)]
    rfl
  have HLOOP := Lib.hid loop
  clear loop
  by_cases c0 : d.lock = 0
  · have e : FB = true := by rw [HFIN.out, HHD.out]; simp [c0]
    go_enter Try.func14, Try.ntmps14
    go_upto_region 1 with (fail)
    refine wp_rows1 (fun W0 hk hr1 hs1 => ?_)
    simp only at hr1
    obtain ⟨b0, b1, b2, b3⟩ := hr1.cell4
    have HK := Lib.hid hk
    clear hk hr1 hs1
    go_wp2
    go_ret
    exact ⟨by first | rfl | (rw [e]; rfl), HK.out⟩
  · by_cases c1 : d.lock < 500000000 ∧ d.lock < h
    · obtain ⟨c1a, c1b⟩ := c1
      have e : FB = true := by rw [HFIN.out, HHD.out]; simp [c1a, c1b]
      have hm2 : IntKind.u64.wrap h = h := by rw [IntKind.wrap_u64]; omega
      have c1d : 0 < h := by omega
      go_enter Try.func14, Try.ntmps14
      go_upto_region 1 with (fail)
      refine wp_rows1 (fun W0 hk hr1 hs1 => ?_)
      simp only at hr1
      obtain ⟨b0, b1, b2, b3⟩ := hr1.cell4
      have HK := Lib.hid hk
      clear hk hr1 hs1
      go_wp2
      go_ret
      exact ⟨by first | rfl | (rw [e]; rfl), HK.out⟩
    · by_cases c2 : 500000000 ≤ d.lock ∧ d.lock < t
      · obtain ⟨c2a, c2b⟩ := c2
        have c2c : ¬ d.lock < 500000000 := by omega
        have e : FB = true := by rw [HFIN.out, HHD.out]; simp [c2a, c2b]
        go_enter Try.func14, Try.ntmps14
        go_upto_region 1 with (fail)
        refine wp_rows1 (fun W0 hk hr1 hs1 => ?_)
        simp only at hr1
        obtain ⟨b0, b1, b2, b3⟩ := hr1.cell4
        have HK := Lib.hid hk
        clear hk hr1 hs1
        go_wp2
        go_ret
        exact ⟨by first | rfl | (rw [e]; rfl), HK.out⟩
      · have e := HLOOP.out c0 c1 c2
        have hsplit : (d.lock < 500000000 ∧ 0 < h ∧ ¬ d.lock < h ∧ ¬ 500000000 ≤ d.lock) ∨ (d.lock < 500000000 ∧ ¬ 0 < h ∧ ¬ 500000000 ≤ d.lock) ∨ (¬ d.lock < 500000000 ∧ 500000000 ≤ d.lock ∧ ¬ d.lock < t) := by omega
        clear c1 c2 HFIN HHD HLOOP
        have HE := Lib.hid e
        clear e
        have run : Calls Try.prog 14 #[.agg #[.int .i32 d.ver, .slice ia d.ins.length ic, .slice oa d.outs.length oc, .int .u32 d.lock], .int .i64 h, .int .u32 t] w fun e w' => e = .returned (.bool (!(d.ins.any fnSeq))) ∧ Keeps w w' := by
          rcases hsplit with ⟨c3, c4, c5, c6⟩ | ⟨c3, c4, c6⟩ | ⟨c3, c4, c5⟩
          all_goals
            try (have hm2 : IntKind.u64.wrap h = h := by rw [IntKind.wrap_u64]; omega)
            go_enter Try.func14, Try.ntmps14
            go_upto_region 1 with (fail)
            refine wp_rows1 (fun W0 hk hr1 hs1 => ?_)
            simp only at hr1
            obtain ⟨b0, b1, b2, b3⟩ := hr1.cell4
            have HK := Lib.hid hk
            clear hk hr1 hs1
            go_wp2
            go_loopw [7] (fun c wr => ∃ i : Nat, i ≤ d.ins.length ∧ c = .int .i64 i ∧ wr = W0 ∧ ∀ (k : Nat) x, k < i → d.ins[k]? = some x → fnSeq x = false) (fun c _ => (d.ins.length - intOf c).toNat)
            case atStart => exact ⟨0, by omega, rfl, rfl, fun k x hk _ => by omega⟩
            case round =>
              obtain ⟨i, hi, rfl, rfl, hall⟩ := hrel
              by_cases hlt : i < d.ins.length
              · obtain ⟨g, off, sv, wv, di, rfl, hg, hdi, hrow, hrin⟩ := (HI.out.keeps HK.out).at i hlt
                obtain ⟨c32, c33, c34, c35⟩ := at_index hrow hrin.ok.hashLen
                have HALL := Lib.hid hall; have HDI := Lib.hid hdi
                clear hall hdi hrow hrin
                by_cases hw : di.seq = 4294967295
                · go_wp2
                  go_roundw
                  case rel =>
                    refine ⟨i + 1, by omega, by go_num, by first | rfl | trivial, fun k x hk hx => ?_⟩
                    by_cases hki : k = i
                    · subst hki; rw [HDI.out] at hx; cases hx; unfold fnSeq; simp [hw]
                    · exact HALL.out k x (by omega) hx
                  case measure => simp [intOf]; omega
                · go_wp2
                  go_ret
                  refine ⟨?_, HK.out⟩
                  rw [any_true_at fnSeq _ i di HDI.out (by unfold fnSeq; simp [hw])]
                  rfl
              · have HALL := Lib.hid hall
                clear hall
                go_wp2
                go_ret
                refine ⟨?_, HK.out⟩
                have e9 : d.ins.any fnSeq = false := any_false_upto _ _ (fun k x hx => HALL.out k x (by have := (List.getElem?_eq_some_iff.1 hx).1; omega) hx)
                rw [e9]
                rfl
        rw [HE.out]
        exact run
end Go.Proofs.Ytjfkkdkmpnpmpaa
