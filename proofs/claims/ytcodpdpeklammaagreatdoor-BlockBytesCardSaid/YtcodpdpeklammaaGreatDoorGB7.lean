/- The reference's Witnessed, Inputs, Outputs, Encode. -/
import Derived.Test.YtcodpdpeklammaaGreatDoorGA8
import Derived.Test.YtcodpdpeklammaaGreatDoorGA3
namespace Go.Proofs.YtcodpdpeklammaaGreatDoor
set_option linter.unusedVariables false
set_option linter.unusedSimpArgs false
open Go Go.RowKit

theorem sz_h32 (l : List Int) (h : l.length = 32) : (Tryz.prog.info? 23).map (·.size) = some (l.map (Value.int .u8)).length := by rw [List.length_map, h]; kernel_rfl
set_option maxRecDepth 100000 in
set_option maxHeartbeats 1000000 in
theorem rwitnessed_any (S T R : Nat → Prop) (d : TxD) (iv ov : Value) (w : World) (h : RTx S T R w iv ov d) :
    Calls Tryz.prog 58 #[.agg #[.int .i32 d.ver, iv, ov, .int .u32 d.lock]] w fun e w' => e = .returned (.bool (witnessedD d)) ∧ Keeps w w' := by
  have HI := Lib.hid h.ins
  obtain ⟨ia, ic, rfl, hic, hicm, -⟩ := h.ins.any
  obtain ⟨oa, oc, rfl, -⟩ := h.outs.any
  have hsm : d.ins.length * 96 ≤ 140737488355328 := by obtain ⟨_, _, h⟩ := h.ins; exact h.small
  clear h
  go_enter Tryz.func58, Tryz.ntmps58
  go_upto_region 1 with (fail)
  refine wp_rows1 (fun W0 hk hr1 hsz => ?_)
  simp only at hr1
  obtain ⟨p, hp⟩ : ∃ p, p = w.heap.size := ⟨_, rfl⟩
  rw [← hp] at hr1 ⊢
  clear hp hsz
  obtain ⟨b0, b1, b2, b3⟩ := hr1.cell4
  have HK := Lib.hid hk
  clear hk hr1
  go_wp2
  go_loopw [3] (fun c wr => ∃ i : Nat, i ≤ d.ins.length ∧ c = .int .i64 i ∧ wr = W0 ∧ ∀ k x, k < i → d.ins[k]? = some x → x.wit.length = 0) (fun c _ => (d.ins.length - intOf c).toNat)
  case atStart => exact ⟨0, by omega, rfl, rfl, fun k x hk _ => by omega⟩
  case round =>
    obtain ⟨i, hi, rfl, rfl, hall⟩ := hrel
    by_cases hlt : i < d.ins.length
    · obtain ⟨g, off, sv, wv, di, rfl, hg, hdi, hrow, hrin⟩ := (HI.out.keeps HK.out).at i hlt
      obtain ⟨c32, c33, c34, c35⟩ := at_index hrow hrin.ok.hashLen
      obtain ⟨wa, wc, rfl, -⟩ := hrin.wit.any
      have HALL := Lib.hid hall; have HDI := Lib.hid hdi
      clear hall hdi hrow hrin
      by_cases hw : 0 < di.wit.length
      · go_wp2
        go_ret
        refine ⟨?_, HK.out⟩
        rw [show witnessedD d = true from any_true_at _ _ i di HDI.out (by simpa using hw)]
        rfl
      · go_wp2
        go_roundw
        case rel =>
          refine ⟨i + 1, by omega, by go_num, by first | rfl | trivial, fun k x hk hx => ?_⟩
          by_cases hki : k = i
          · subst hki; rw [HDI.out] at hx; cases hx; omega
          · exact HALL.out k x (by omega) hx
        case measure => simp [intOf]; omega
    · have HALL := Lib.hid hall
      clear hall
      go_wp2
      go_ret
      refine ⟨?_, HK.out⟩
      have e : witnessedD d = false := any_false_upto _ _ (fun k x hx => by
        have := HALL.out k x (by have := (List.getElem?_eq_some_iff.1 hx).1; omega) hx
        simp [this])
      rw [e]
      rfl
/-- where a slice of bytes of one's own stands, of a known list -/
theorem Own.cast {w W : World} {v : Value} {n m : Nat} {l r : List Int} (h : Own w W v n l) (e : l = r) (e2 : n = m) : Own w W v m r := by subst e e2; exact h
set_option maxRecDepth 100000 in
set_option maxHeartbeats 2000000 in
theorem rinputs_any (S T R : Nat → Prop) (d : TxD) (iv ov : Value) (hf : (insB d.ins).length ≤ 1000000000000) (w : World) (h : RTx S T R w iv ov d) :
    Calls Tryz.prog 59 #[.agg #[.int .i32 d.ver, iv, ov, .int .u32 d.lock]] w fun e w' => ∃ v, e = .returned v ∧ Own w w' v (insB d.ins).length (insB d.ins) := by
  have HI := Lib.hid h.ins
  obtain ⟨ia, ic, rfl, hic, hicm, -⟩ := h.ins.any
  obtain ⟨oa, oc, rfl, -⟩ := h.outs.any
  have hsm : d.ins.length * 96 ≤ 140737488355328 := by obtain ⟨_, _, h⟩ := h.ins; exact h.small
  clear h
  have hpre : ∀ i, (sizeB (d.ins.length : Int) ++ (d.ins.take i).flatMap inB).length ≤ 1000000000000 := fun i => by
    have := flat_take_le inB d.ins i
    unfold insB at hf
    simp only [List.length_append] at hf ⊢
    omega
  have HPRE := Lib.hid hpre
  have HSZ := Lib.hid (size_any (d.ins.length : Int) (by omega) (by omega))
  clear hpre
  go_enter Tryz.func59, Tryz.ntmps59
  go_upto_region 1 with (fail)
  refine wp_rows1 (fun W0 hk hr1 hsz => ?_)
  simp only at hr1
  obtain ⟨p, hp⟩ : ∃ p, p = w.heap.size := ⟨_, rfl⟩
  rw [← hp] at hr1 ⊢
  clear hp hsz
  obtain ⟨b0, b1, b2, b3⟩ := hr1.cell4
  have HK := Lib.hid hk; have HR := Lib.hid hr1
  clear hk hr1
  go_upto_region 2 with (go_at_call 30; refine (HSZ.out _).mono ?_; rintro e W1 ⟨v1, rfl, hO1⟩; have HO1 := Lib.hid hO1; clear hO1)
  go_wp2
  go_loopw [3, 4] (fun vv c wr => ∃ i : Nat, i ≤ d.ins.length ∧ c = .int .i64 i ∧ Own W0 wr vv (sizeB (d.ins.length : Int) ++ (d.ins.take i).flatMap inB).length (sizeB (d.ins.length : Int) ++ (d.ins.take i).flatMap inB)) (fun _ c _ => (d.ins.length - intOf c).toNat)
  case atStart => exact ⟨0, by omega, rfl, HO1.out.cast (by simp) (by simp)⟩
  case round =>
    obtain ⟨i, hi, rfl, hown⟩ := hrel
    by_cases hlt : i < d.ins.length
    · obtain ⟨g, off, sv, wv, di, rfl, hg, hdi, hrow, hrin⟩ := (HI.out.keeps HK.out).at i hlt
      have hstep := take_flat inB d.ins i di hdi
      have hbnd := HPRE.out (i + 1)
      rw [hstep] at hbnd
      have HSTEP := Lib.hid hstep
      have hpl := HPRE.out i
      generalize (d.ins.take i).flatMap inB = PL at *
      have e5 : sizeB (d.ins.length : Int) ++ (PL ++ inB di) = (sizeB (d.ins.length : Int) ++ PL) ++ inB di := by simp
      rw [e5] at hbnd
      have E5 := Lib.hid e5
      generalize hPP : sizeB (d.ins.length : Int) ++ PL = PP at *
      clear hstep e5 hPP
      have hib : inB di = di.hash ++ leB di.index 4 ++ textB di.script ++ leB di.seq 4 := rfl
      have hlens : (inB di).length = di.hash.length + 4 + (textB di.script).length + 4 := by rw [hib]; simp only [List.length_append, leB_length]
      have hh32 := hrin.ok.hashLen
      rw [List.length_append, hlens, hh32] at hbnd
      have hcell : ∀ W, Keeps W0 W → W.cell? ⟨p, 1, none⟩ = some (.slice (some ⟨g, off, none⟩) d.ins.length ic) ∧ W.cell? ⟨g, off + i * 36 + 32, none⟩ = some (.int .u32 di.index) ∧ W.cell? ⟨g, off + i * 36 + 33, none⟩ = some sv ∧ W.cell? ⟨g, off + i * 36 + 34, none⟩ = some (.int .u32 di.seq) := fun W hk => by
        obtain ⟨_, h1, _, _⟩ := (HR.out.keeps hk).cell4
        obtain ⟨h2, h3, h4, _⟩ := at_index (hrow.keeps hk) hrin.ok.hashLen
        exact ⟨h1, h2, h3, h4⟩
      have hhash : ∀ W, Keeps W0 W → Row W g (off + i * 36) (di.hash.map (Value.int .u8)) := fun W hk => by
        have := (hrow.keeps hk).take 32
        unfold inCells at this
        rwa [List.take_append_of_le_length (by simp [hh32]), List.take_of_length_le (by simp [hh32])] at this
      have hx0 := hrin.ok.index; have hq0 := hrin.ok.seq
      obtain ⟨ix0, ix1⟩ := hx0; obtain ⟨iq0, iq1⟩ := hq0
      have hm1 : IntKind.u64.wrap di.index = di.index := by rw [IntKind.wrap_u64]; omega
      have hm2 : IntKind.u64.wrap di.seq = di.seq := by rw [IntKind.wrap_u64]; omega
      have HL1 := Lib.hid (low_any di.index ix0 (by omega) 4 (by omega)); have HL2 := Lib.hid (low_any di.seq iq0 (by omega) 4 (by omega))
      have hts : di.script.length ≤ (textB di.script).length := by unfold textB; simp
      have HTX := Lib.hid (text_any sv di.script (by omega))
      obtain ⟨sa, sc, rfl, -⟩ := hrin.script.any
      have HC := Lib.hid hcell; have HHA := Lib.hid hhash; have HRIN := Lib.hid hrin; have HOWN := Lib.hid hown; have HIB := Lib.hid hib
      obtain ⟨d1, d2, d3, d4⟩ := hcell _ hown.keeps
      have HH32 := Lib.hid hh32
      clear hrow hrin hcell hhash hib hlens hown hh32
      generalize textB di.script = TB at *
      generalize leB di.index 4 = LI at *
      generalize leB di.seq 4 = LQ at *
      go_upto_region 6 with (first | (refine wpList_load_at rfl 23 (.tmp 23) rfl g (off + i * 36) rfl _ _ (HHA.out _ HOWN.out.keeps) Tryz.underlying23 rfl (sz_h32 _ HH32.out) ?_) | (refine wpList_store_row rfl 23 (.tmp 5) (.tmp 24) rfl _ 0 rfl (List.replicate 32 (Value.int .u8 0)) (di.hash.map (Value.int .u8)) rfl (Row.new _ _ _ rfl) (by simp [HH32.out]) (sz_h32 _ HH32.out) (int_oneCell _) ?_; intro W5 hr5 hc5; have HR5 := Lib.hid hr5; have HC5 := Lib.hid hc5; clear hr5 hc5))
      have hk5 : Keeps wr W5 := keeps_chg (keeps_alloc (Keeps.refl _) _) HC5.out (Nat.le_refl _)
      have hq5 : wr.heap.size < W5.heap.size := HR5.out.lt (by intro e; have := congrArg List.length e; simp [HH32.out] at this)
      have hrd5 : Rd W5 1 (.slice (some ⟨wr.heap.size, 0, none⟩) 32 32) 32 (di.hash.map (Value.int .u8)) := Rd.of_row HR5.out (by simp [HH32.out]) hq5 (Nat.le_refl _) (by unfold maxLen; omega)
      have HK5 := Lib.hid hk5; have HRD5 := Lib.hid hrd5
      clear hk5 hq5 hrd5 HR5 HC5 d1 d2 d3 d4
      obtain ⟨va, vc, hve⟩ := HOWN.out.any
      subst hve
      go_upto_region 7 with (refine own_append rfl _ _ rfl HOWN.out HK5.out rfl _ rfl 32 di.hash (HRD5.out.src Tryz.underlying32 (int_oneCell _)) (by omega) ?_; intro v6 w6 hO6 hG6; obtain ⟨a6, c6, rfl⟩ := hO6.any; obtain ⟨d1, d2, d3, d4⟩ := HC.out _ hO6.keeps; have HO6 := Lib.hid hO6; clear hO6 hG6)
      go_upto_region 8 with (first | (go_at_call 33; refine (HL1.out _).mono ?_; rintro e W7 ⟨v7, rfl, hO7⟩; obtain ⟨a7, c7, rfl⟩ := hO7.any; have HO7 := Lib.hid hO7; clear hO7) | (refine own_append rfl _ _ rfl HO6.out HO7.out.keeps rfl _ rfl 4 LI (HO7.out.rd.src Tryz.underlying32 (int_oneCell _)) (by omega) ?_; intro v8 w8 hO8 hG8; obtain ⟨a8, c8, rfl⟩ := hO8.any; clear d1 d2 d3 d4; obtain ⟨d1, d2, d3, d4⟩ := HC.out _ hO8.keeps; have HO8 := Lib.hid hO8; clear hO8 hG8))
      go_upto_region 9 with (first | (go_at_call 31; refine (HTX.out _ (HRIN.out.script.keeps HO8.out.keeps).rd).mono ?_; rintro e W9 ⟨v9, rfl, hO9⟩; obtain ⟨a9, c9, rfl⟩ := hO9.any; have HO9 := Lib.hid hO9; clear hO9) | (refine own_append rfl _ _ rfl HO8.out HO9.out.keeps rfl _ rfl TB.length TB (HO9.out.rd.src Tryz.underlying32 (int_oneCell _)) (by omega) ?_; intro v10 w10 hO10 hG10; obtain ⟨a10, c10, rfl⟩ := hO10.any; clear d1 d2 d3 d4; obtain ⟨d1, d2, d3, d4⟩ := HC.out _ hO10.keeps; have HO10 := Lib.hid hO10; clear hO10 hG10))
      go_wp2_with (first | (go_at_call 33; refine (HL2.out _).mono ?_; rintro e W11 ⟨v11, rfl, hO11⟩; obtain ⟨a11, c11, rfl⟩ := hO11.any; have HO11 := Lib.hid hO11; clear hO11) | (refine own_append rfl _ _ rfl HO10.out HO11.out.keeps rfl _ rfl 4 LQ (HO11.out.rd.src Tryz.underlying32 (int_oneCell _)) (by omega) ?_; intro v12 w12 hO12 hG12; obtain ⟨a12, c12, rfl⟩ := hO12.any; have HO12 := Lib.hid hO12; clear hO12 hG12))
      go_roundw
      case rel =>
        have e12 : PP ++ di.hash ++ LI ++ TB ++ LQ = sizeB (d.ins.length : Int) ++ (d.ins.take (i + 1)).flatMap inB := by
          rw [HSTEP.out, E5.out, HIB.out]; simp only [List.append_assoc]
        exact ⟨i + 1, by omega, by go_num, HO12.out.cast e12 (by rw [← e12]; have := HO12.out.len; rw [← this])⟩
      case measure => simp [intOf]; omega
    · obtain rfl : i = d.ins.length := by omega
      rw [List.take_length] at hown
      have HOWN := Lib.hid hown
      obtain ⟨va, vc, rfl⟩ := hown.any
      obtain ⟨_, d1, _, _⟩ := (HR.out.keeps hown.keeps).cell4
      clear hown
      go_wp2
      go_ret
      exact ⟨_, rfl, Own.keepsW HK.out HOWN.out⟩
set_option maxRecDepth 100000 in
set_option maxHeartbeats 2000000 in
theorem routputs_any (S T R : Nat → Prop) (d : TxD) (iv ov : Value) (hf : (outsB d.outs).length ≤ 1000000000000) (w : World) (h : RTx S T R w iv ov d) :
    Calls Tryz.prog 60 #[.agg #[.int .i32 d.ver, iv, ov, .int .u32 d.lock]] w fun e w' => ∃ v, e = .returned v ∧ Own w w' v (outsB d.outs).length (outsB d.outs) := by
  have HI := Lib.hid h.outs
  obtain ⟨ia, ic, rfl, -⟩ := h.ins.any
  obtain ⟨oa, oc, rfl, hoc, hocm, -⟩ := h.outs.any
  have hsm : d.outs.length * 32 ≤ 140737488355328 := by obtain ⟨_, _, h⟩ := h.outs; exact h.small
  clear h
  have hpre : ∀ i, (sizeB (d.outs.length : Int) ++ (d.outs.take i).flatMap outB).length ≤ 1000000000000 := fun i => by
    have := flat_take_le outB d.outs i
    unfold outsB at hf
    simp only [List.length_append] at hf ⊢
    omega
  have HPRE := Lib.hid hpre
  have HSZ := Lib.hid (size_any (d.outs.length : Int) (by omega) (by omega))
  clear hpre
  go_enter Tryz.func60, Tryz.ntmps60
  go_upto_region 1 with (fail)
  refine wp_rows1 (fun W0 hk hr1 hsz => ?_)
  simp only at hr1
  obtain ⟨p, hp⟩ : ∃ p, p = w.heap.size := ⟨_, rfl⟩
  rw [← hp] at hr1 ⊢
  clear hp hsz
  obtain ⟨b0, b1, b2, b3⟩ := hr1.cell4
  have HK := Lib.hid hk; have HR := Lib.hid hr1
  clear hk hr1
  go_upto_region 2 with (go_at_call 30; refine (HSZ.out _).mono ?_; rintro e W1 ⟨v1, rfl, hO1⟩; have HO1 := Lib.hid hO1; clear hO1)
  go_wp2
  go_loopw [3, 4] (fun vv c wr => ∃ i : Nat, i ≤ d.outs.length ∧ c = .int .i64 i ∧ Own W0 wr vv (sizeB (d.outs.length : Int) ++ (d.outs.take i).flatMap outB).length (sizeB (d.outs.length : Int) ++ (d.outs.take i).flatMap outB)) (fun _ c _ => (d.outs.length - intOf c).toNat)
  case atStart => exact ⟨0, by omega, rfl, HO1.out.cast (by simp) (by simp)⟩
  case round =>
    obtain ⟨i, hi, rfl, hown⟩ := hrel
    by_cases hlt : i < d.outs.length
    · obtain ⟨g, off, sv, di, rfl, hg, hdi, hrow, hrb, hi64⟩ := (HI.out.keeps HK.out).at i hlt
      have hstep := take_flat outB d.outs i di hdi
      have hbnd := HPRE.out (i + 1)
      rw [hstep] at hbnd
      have HSTEP := Lib.hid hstep
      have hpl := HPRE.out i
      generalize (d.outs.take i).flatMap outB = PL at *
      have e5 : sizeB (d.outs.length : Int) ++ (PL ++ outB di) = (sizeB (d.outs.length : Int) ++ PL) ++ outB di := by simp
      rw [e5] at hbnd
      have E5 := Lib.hid e5
      generalize hPP : sizeB (d.outs.length : Int) ++ PL = PP at *
      clear hstep e5 hPP
      have hib : outB di = leB (di.value % 18446744073709551616) 8 ++ textB di.script := rfl
      have hlens : (outB di).length = 8 + (textB di.script).length := by rw [hib]; simp only [List.length_append, leB_length]
      rw [List.length_append, hlens] at hbnd
      have hcell : ∀ W, Keeps W0 W → W.cell? ⟨p, 2, none⟩ = some (.slice (some ⟨g, off, none⟩) d.outs.length oc) ∧ W.cell? ⟨g, off + i * 2, none⟩ = some (.int .i64 di.value) ∧ W.cell? ⟨g, off + i * 2 + 1, none⟩ = some sv := fun W hk => by
        obtain ⟨_, _, h1, _⟩ := (HR.out.keeps hk).cell4
        obtain ⟨h2, h3⟩ := at_value (hrow.keeps hk)
        exact ⟨h1, h2, h3⟩
      have hm1 : IntKind.u64.wrap di.value = di.value % 18446744073709551616 := by rw [IntKind.wrap_u64]
      have HL1 := Lib.hid (low_any (di.value % 18446744073709551616) (by omega) (by omega) 8 (by omega))
      have hts : di.script.length ≤ (textB di.script).length := by unfold textB; simp
      have HTX := Lib.hid (text_any sv di.script (by omega))
      obtain ⟨sa, sc, rfl, -⟩ := hrb.any
      have HC := Lib.hid hcell; have HRB := Lib.hid hrb; have HOWN := Lib.hid hown; have HIB := Lib.hid hib
      obtain ⟨d1, d2, d3⟩ := hcell _ hown.keeps
      clear hrow hrb hcell hib hlens hown
      generalize textB di.script = TB at *
      generalize leB (di.value % 18446744073709551616) 8 = LI at *
      generalize di.value % 18446744073709551616 = vu at *
      obtain ⟨va, vc, hve⟩ := HOWN.out.any
      subst hve
      go_upto_region 6 with (first | (go_at_call 33; refine (HL1.out _).mono ?_; rintro e W7 ⟨v7, rfl, hO7⟩; obtain ⟨a7, c7, rfl⟩ := hO7.any; have HO7 := Lib.hid hO7; clear hO7) | (refine own_append rfl _ _ rfl HOWN.out HO7.out.keeps rfl _ rfl 8 LI (HO7.out.rd.src Tryz.underlying32 (int_oneCell _)) (by omega) ?_; intro v8 w8 hO8 hG8; obtain ⟨a8, c8, rfl⟩ := hO8.any; clear d1 d2 d3; obtain ⟨d1, d2, d3⟩ := HC.out _ hO8.keeps; have HO8 := Lib.hid hO8; clear hO8 hG8))
      go_wp2_with (first | (go_at_call 31; refine (HTX.out _ (HRB.out.keeps HO8.out.keeps).rd).mono ?_; rintro e W9 ⟨v9, rfl, hO9⟩; obtain ⟨a9, c9, rfl⟩ := hO9.any; have HO9 := Lib.hid hO9; clear hO9) | (refine own_append rfl _ _ rfl HO8.out HO9.out.keeps rfl _ rfl TB.length TB (HO9.out.rd.src Tryz.underlying32 (int_oneCell _)) (by omega) ?_; intro v10 w10 hO10 hG10; obtain ⟨a10, c10, rfl⟩ := hO10.any; have HO10 := Lib.hid hO10; clear hO10 hG10))
      go_roundw
      case rel =>
        have e12 : PP ++ LI ++ TB = sizeB (d.outs.length : Int) ++ (d.outs.take (i + 1)).flatMap outB := by
          rw [HSTEP.out, E5.out, HIB.out]; simp only [List.append_assoc]
        exact ⟨i + 1, by omega, by go_num, HO10.out.cast e12 (by rw [← e12]; have := HO10.out.len; rw [← this])⟩
      case measure => simp [intOf]; omega
    · obtain rfl : i = d.outs.length := by omega
      rw [List.take_length] at hown
      have HOWN := Lib.hid hown
      obtain ⟨va, vc, rfl⟩ := hown.any
      obtain ⟨_, _, d1, _⟩ := (HR.out.keeps hown.keeps).cell4
      clear hown
      go_wp2
      go_ret
      exact ⟨_, rfl, Own.keepsW HK.out HOWN.out⟩
end Go.Proofs.YtcodpdpeklammaaGreatDoor
