/- The reference's Few. -/
import Derived.Test.YtcodpdpeklammaaGreatDoorGA7
namespace Go.Proofs.YtcodpdpeklammaaGreatDoor
set_option linter.unusedVariables false
set_option linter.unusedSimpArgs false
open Go Go.RowKit

theorem wp_rows2 {P : Program} {c : Code} {Q : Exit → Act → World → Prop} {a : Act} {w : World} {A B : Array Value} {T U : TypeId}
    (h : ∀ W, Keeps w W → Row W w.heap.size 0 A.toList → Row W (w.heap.size + 1) 0 B.toList → W.heap.size = w.heap.size + 2 → Code.wp P c Q a W) :
    Code.wp P c Q a ((w.alloc (.cells A T)).alloc (.cells B U)) := by
  have h0 := Row.new (w := w) A.toList A T (by simp)
  have h1 := Row.new (w := w.alloc (.cells A T)) B.toList B U (by simp)
  refine h _ (keeps_alloc (keeps_alloc (Keeps.refl w) _) _) (h0.alloc _) ?_ (by simp)
  simpa using h1
set_option maxRecDepth 100000 in
set_option maxHeartbeats 4000000 in
theorem rfew_any (S T R : Nat → Prop) (n b : Nat) (hn : n ≤ 1000) (hb : b ≤ 100000) (d : TxD) (iv ov : Value) (w : World) (h : RTx S T R w iv ov d) :
    Calls Tryz.prog 20 #[.agg #[.int .i32 d.ver, iv, ov, .int .u32 d.lock], .int .i64 n, .int .i64 b] w fun e w' => ∃ iv' ov', e = .returned (.agg #[.int .i32 d.ver, iv', ov', .int .u32 d.lock]) ∧ Keeps w w' ∧ ∃ S' T', OwnTx S' T' w.heap.size w' iv' ov' (fewD n b d) := by
  have HT := Lib.hid h
  obtain ⟨ia, ic, rfl, -⟩ := h.ins.any
  obtain ⟨oa, oc, rfl, -⟩ := h.outs.any
  clear h
  go_enter Tryz.func20, Tryz.ntmps20
  go_upto_region 1 with (fail)
  refine wp_rows2 (fun W0 hk hr1 hr2 hsz => ?_)
  simp only at hr1 hr2
  obtain ⟨p, hp⟩ : ∃ p, p = w.heap.size := ⟨_, rfl⟩
  rw [← hp] at hr1 hr2 hsz ⊢
  obtain ⟨b0, b1, b2, b3⟩ := hr1.cell4
  have HP := Lib.hid hp; have HSZ := Lib.hid hsz
  have HK := Lib.hid hk; have HR1 := Lib.hid hr1; have HR2 := Lib.hid hr2
  clear hk hr1 hr2 hp hsz
  go_upto_region 2 with (first | (go_at_call 49; refine (rtcopy_any S T R d _ _ _ (HT.out.keeps HK.out)).mono ?_; rintro e W1 ⟨iv1, ov1, rfl, hk1, S1, T1, ho1⟩; obtain ⟨i1, ic1, rfl, hic1, hicm1, -⟩ := ho1.ins.x.any; obtain ⟨o1, oc1, rfl, hoc1, hocm1, -⟩ := ho1.outs.any; have HK1 := Lib.hid hk1; have HO1 := Lib.hid ho1; clear hk1 ho1) | (refine wpList_store_row rfl 46 (.tmp 3) (.tmp 11) rfl p 0 rfl _ [.int .i32 d.ver, .slice i1 d.ins.length ic1, .slice o1 d.outs.length oc1, .int .u32 d.lock] rfl (HR1.out.keeps HK1.out) rfl (sz_tx _ _ _ _) (four_one _ _ _ _ _ _ _ _) ?_; intro W2 hr2 hc2; have HB2 := Lib.hid hr2; have HC2 := Lib.hid hc2; clear hr2 hc2))
  have hst : FewSt S1 T1 (p + 2) w W2 p (.slice i1 d.ins.length ic1) (.slice o1 d.outs.length oc1) d :=
    ⟨keeps_chg (HK.out.trans HK1.out) HC2.out (by have := HP.out; omega), HB2.out, (HO1.out.chg HC2.out (fun g e => .inl (by have := HSZ.out; omega))).low (by have := HSZ.out; omega), by have := HP.out; omega, by omega⟩
  have hr2k : Row W2 (p + 1) 0 [.int .i32 0, .slice none 0 0, .slice none 0 0, .int .u32 0] := (HR2.out.keeps HK1.out).chg HC2.out (by omega)
  have HST := Lib.hid hst; have HRES := Lib.hid hr2k
  clear hst hr2k b0 b1 b2 b3 HR1 HR2 HB2 HC2 HK1 HO1 HK
  generalize hli : d.ins.length = li at *
  obtain ⟨b0, b1, b2, b3⟩ := HST.out.cells
  obtain ⟨f1, f2⟩ := HST.out.free
  rename_i K1 hK1 K0 hK0
  refine wp_join [12, 13, 14, 15, 16, 17, 18, 19, 20, 21] (fun W => FewSt S1 T1 (p + 2) w W p (.slice i1 (d.ins.take n).length ic1) (.slice o1 d.outs.length oc1) { d with ins := d.ins.take n } ∧ Row W (p + 1) 0 [.int .i32 0, .slice none 0 0, .slice none 0 0, .int .u32 0]) hK1 (fun key0 => ?_) ?_
  focus
    have key := fun u1 u2 u3 u4 u5 u6 u7 u8 u9 u10 w' => key0 [u1, u2, u3, u4, u5, u6, u7, u8, u9, u10] w' rfl
    clear key0 hK1
    simp only [putAll, Act.put, List.setIfInBounds_toArray, List.set_cons_zero, List.set_cons_succ] at key
    have KEY := Lib.hid key
    clear key
    by_cases hcut : n < li
    focus
      obtain ⟨g0, off0, sv0, wv0, rfl, -⟩ := HST.out.own.at (i := 0) (List.getElem?_eq_getElem (by omega))
      have hnc : (n : Int) ≤ ic1 := by omega
      go_wp2
      refine KEY.out _ _ _ _ _ _ _ _ _ _ _ ?_
      refine ⟨?_, HRES.out.other (by show p + 1 ≠ p; omega) _⟩
      have h1 := HST.out.own.takeIns n (by omega)
      have h2 : (d.ins.take n).length = n := by simp; omega
      rw [h2]
      exact HST.out.box1 h1 rfl rfl
    focus
      go_wp2
      refine KEY.out _ _ _ _ _ _ _ _ _ _ _ ?_
      refine ⟨?_, HRES.out⟩
      have h2 : d.ins.take n = d.ins := List.take_of_length_le (by omega)
      refine HST.out.same ?_ rfl ?_
      · rw [h2, hli]
      · rw [h2]
  intro us W3 hl hj3
  match us, hl with
  | [u1, u2, u3, u4, u5, u6, u7, u8, u9, u10], _ =>
  simp only [putAll, Act.put, List.setIfInBounds_toArray, List.set_cons_zero, List.set_cons_succ]
  clear hK1 K1 hK0 K0
  obtain ⟨hst3, hres3⟩ := hj3
  clear b0 b1 b2 b3 f1 f2 HST HRES
  have HST := Lib.hid hst3; have HRES := Lib.hid hres3
  clear hst3 hres3
  obtain ⟨b0, b1, b2, b3⟩ := HST.out.cells
  obtain ⟨f1, f2⟩ := HST.out.free
  simp only at b0 b1 b2 b3
  go_upto_region 4 with (fail)
  rename_i K1 hK1 K0 hK0
  refine wp_join [22, 23, 24, 25, 26, 27, 28, 29, 30, 31] (fun W => FewSt S1 T1 (p + 2) w W p (.slice i1 (d.ins.take n).length ic1) (.slice o1 (d.outs.take n).length oc1) { d with ins := d.ins.take n, outs := d.outs.take n } ∧ Row W (p + 1) 0 [.int .i32 0, .slice none 0 0, .slice none 0 0, .int .u32 0]) hK1 (fun key0 => ?_) ?_
  focus
    have key := fun u1 u2 u3 u4 u5 u6 u7 u8 u9 u10 w' => key0 [u1, u2, u3, u4, u5, u6, u7, u8, u9, u10] w' rfl
    clear key0 hK1
    simp only [putAll, Act.put, List.setIfInBounds_toArray, List.set_cons_zero, List.set_cons_succ] at key
    have KEY := Lib.hid key
    clear key
    by_cases hcut : n < d.outs.length
    focus
      obtain ⟨g0, off0, sv0, rfl, -⟩ := HST.out.own.atOut (i := 0) (List.getElem?_eq_getElem (by simpa using (by omega : 0 < d.outs.length)))
      have hnc : (n : Int) ≤ oc1 := by omega
      go_wp2
      refine KEY.out _ _ _ _ _ _ _ _ _ _ _ ?_
      refine ⟨?_, HRES.out.other (by show p + 1 ≠ p; omega) _⟩
      have h1 := HST.out.own.takeOuts n (by show n ≤ d.outs.length; omega)
      have h2 : (d.outs.take n).length = n := by simp; omega
      rw [h2]
      exact HST.out.box2 h1 rfl rfl
    focus
      go_wp2
      refine KEY.out _ _ _ _ _ _ _ _ _ _ _ ?_
      refine ⟨?_, HRES.out⟩
      have h2 : d.outs.take n = d.outs := List.take_of_length_le (by omega)
      refine HST.out.same rfl ?_ ?_
      · rw [h2]
      · rw [h2]
  intro us W4 hl hj4
  match us, hl with
  | [u1, u2, u3, u4, u5, u6, u7, u8, u9, u10], _ =>
  simp only [putAll, Act.put, List.setIfInBounds_toArray, List.set_cons_zero, List.set_cons_succ]
  clear hK1 K1 hK0 K0
  obtain ⟨hst4, hres4⟩ := hj4
  clear b0 b1 b2 b3 f1 f2 HST HRES
  generalize hL : d.ins.take n = L at *
  generalize hM : d.outs.take n = M at *
  have hLn : L.length ≤ 1000 := by rw [← hL]; simp; omega
  have hMn : M.length ≤ 1000 := by rw [← hM]; simp; omega
  have HST := Lib.hid hst4; have HRES := Lib.hid hres4; have HL := Lib.hid hL; have HM := Lib.hid hM
  clear hst4 hres4 hL hM hli hic1 hoc1 HT
  generalize W4 = W5 at *
  go_wp2
  go_loopw [7] (fun c wr => ∃ i : Nat, i ≤ L.length ∧ c = .int .i64 i ∧ FewSt S1 T1 (p + 2) w wr p (.slice i1 L.length ic1) (.slice o1 M.length oc1) { d with ins := upto (trimIn n b) i L, outs := M } ∧ Row wr (p + 1) 0 [.int .i32 0, .slice none 0 0, .slice none 0 0, .int .u32 0]) (fun c _ => (L.length - intOf c).toNat)
  case atStart => exact ⟨0, by omega, rfl, by rw [upto_zero]; exact HST.out, HRES.out⟩
  case round =>
    obtain ⟨i, hi, rfl, hst, hres⟩ := hrel
    obtain ⟨b0, b1, b2, b3⟩ := hst.cells
    obtain ⟨f1, f2⟩ := hst.free
    simp only at b0 b1 b2 b3
    by_cases hlt : i < L.length
    · obtain ⟨di, hdi⟩ : ∃ di, L[i]? = some di := ⟨L[i], List.getElem?_eq_getElem hlt⟩
      have hux := upto_get (trimIn n b) i L di hdi
      have hus := upto_step (trimIn n b) i L di hdi
      have HUX := Lib.hid hux; have HUS := Lib.hid hus; have HST := Lib.hid hst; have HRES := Lib.hid hres
      generalize upto (trimIn n b) i L = X at *
      obtain ⟨g, off, sv, wv, rfl, hg, hrow, hrin⟩ := hst.own.at hux
      obtain ⟨c32, c33, c34, c35⟩ := at_index hrow hrin.ok.hashLen
      obtain ⟨z33, z35, z34⟩ := at_free hrow hrin.ok.hashLen
      obtain ⟨sa, sc, rfl, hsc, hscm, hsan⟩ := hrin.script.any
      have HROW := Lib.hid hrow; have HRIN := Lib.hid hrin
      clear hst hres hux hus hrow hrin hdi
      go_upto_region 9 with (fail)
      rename_i K1 hK1 K0 hK0
      refine wp_join [39, 40, 41, 42, 43, 44, 45, 46, 47, 48, 49, 50, 51, 52, 53, 54, 55, 56, 57, 58, 59, 60] (fun W => FewSt S1 T1 (p + 2) w W p (.slice (some ⟨g, off, none⟩) L.length ic1) (.slice o1 M.length oc1) { d with ins := X.set i { di with script := di.script.take b }, outs := M } ∧ Row W (p + 1) 0 [.int .i32 0, .slice none 0 0, .slice none 0 0, .int .u32 0]) hK1 (fun key0 => ?_) ?_
      focus
        have key := fun u1 u2 u3 u4 u5 u6 u7 u8 u9 u10 u11 u12 u13 u14 u15 u16 u17 u18 u19 u20 u21 u22 w' => key0 [u1, u2, u3, u4, u5, u6, u7, u8, u9, u10, u11, u12, u13, u14, u15, u16, u17, u18, u19, u20, u21, u22] w' rfl
        clear key0 hK1
        simp only [putAll, Act.put, List.setIfInBounds_toArray, List.set_cons_zero, List.set_cons_succ] at key
        have KEY := Lib.hid key
        clear key
        by_cases hcut : b < di.script.length
        focus
          obtain ⟨ad, rfl⟩ : ∃ ad, sa = some ad := by
            cases sa with
            | none => have := hsan rfl; omega
            | some ad => exact ⟨ad, rfl⟩
          have hbc : (b : Int) ≤ sc := by omega
          go_upto_region 10 with (fail)
          refine wp_region_quiet_tail 11 (by kernel_rfl) (by kernel_rfl) ?_
          simp only [List.take_succ_cons, List.take_zero, List.drop_succ_cons, List.drop_zero]
          repeat (first | go_big_quiet_step (fail) | quiet_step (fail))
          refine wpQuiet_nil ?_
          intro _ hw'
          obtain ⟨nq, hw''⟩ := hw'
          subst hw''
          go_wp2
          refine KEY.out _ _ _ _ _ _ _ _ _ _ _ _ _ _ _ _ _ _ _ _ _ _ _ ?_
          exact ⟨HST.out.cutScript HUX.out HROW.out HRIN.out b (by omega) nq, FewSt.apart (S := S1) (T := T1) (w := w) (p := p) HST.out.at (by omega) nq HRES.out⟩
        focus
          go_wp2
          refine KEY.out _ _ _ _ _ _ _ _ _ _ _ _ _ _ _ _ _ _ _ _ _ _ _ ?_
          have h2 : di.script.take b = di.script := List.take_of_length_le (by omega)
          exact ⟨HST.out.same rfl rfl (by rw [h2, set_self X i _ HUX.out]), HRES.out⟩
      intro us W6 hl hj6
      match us, hl with
      | [u1, u2, u3, u4, u5, u6, u7, u8, u9, u10, u11, u12, u13, u14, u15, u16, u17, u18, u19, u20, u21, u22], _ =>
      simp only [putAll, Act.put, List.setIfInBounds_toArray, List.set_cons_zero, List.set_cons_succ]
      clear hK1 K1 hK0 K0
      obtain ⟨hst6, hres6⟩ := hj6
      have HIL := Lib.hid hlt
      have hil2 : i < X.length := (List.getElem?_eq_some_iff.1 HUX.out).1
      have HIL2 := Lib.hid hil2
      clear b0 b1 b2 b3 f1 f2 c32 c33 c34 c35 z33 z34 z35 hg hsc hscm hsan HROW HRIN HST HRES hlt hil2
      have hux6 : (X.set i { di with script := di.script.take b })[i]? = some { di with script := di.script.take b } := List.getElem?_set_self HIL2.out
      generalize hdd : ({ di with script := di.script.take b } : InD) = d1 at *
      have HD1 := Lib.hid hdd
      clear hdd
      obtain ⟨b0, b1, b2, b3⟩ := hst6.cells
      obtain ⟨f1, f2⟩ := hst6.free
      simp only at b0 b1 b2 b3
      obtain ⟨g', off', sv, wv, hgo, hg, hrow, hrin⟩ := hst6.own.at hux6
      cases hgo
      obtain ⟨c32, c33, c34, c35⟩ := at_index hrow hrin.ok.hashLen
      obtain ⟨z33, z35, z34⟩ := at_free hrow hrin.ok.hashLen
      obtain ⟨wa, wc, rfl, hwc, hwcm, hwan⟩ := hrin.wit.any
      have HROW := Lib.hid hrow; have HRIN := Lib.hid hrin; have HST := Lib.hid hst6; have HRES := Lib.hid hres6; have HUX6 := Lib.hid hux6
      clear hst6 hres6 hrow hrin hux6
      go_upto_region 11 with (fail)
      rename_i K1 hK1 K0 hK0
      refine wp_join [61, 62, 63, 64, 65, 66, 67, 68, 69, 70, 71, 72, 73, 74, 75, 76, 77, 78, 79, 80, 81, 82] (fun W => FewSt S1 T1 (p + 2) w W p (.slice (some ⟨g, off, none⟩) L.length ic1) (.slice o1 M.length oc1) { d with ins := X.set i { d1 with wit := d1.wit.take n }, outs := M } ∧ Row W (p + 1) 0 [.int .i32 0, .slice none 0 0, .slice none 0 0, .int .u32 0]) hK1 (fun key0 => ?_) ?_
      focus
        have key := fun u1 u2 u3 u4 u5 u6 u7 u8 u9 u10 u11 u12 u13 u14 u15 u16 u17 u18 u19 u20 u21 u22 w' => key0 [u1, u2, u3, u4, u5, u6, u7, u8, u9, u10, u11, u12, u13, u14, u15, u16, u17, u18, u19, u20, u21, u22] w' rfl
        clear key0 hK1
        simp only [putAll, Act.put, List.setIfInBounds_toArray, List.set_cons_zero, List.set_cons_succ] at key
        have KEY := Lib.hid key
        clear key
        by_cases hcut : n < d1.wit.length
        focus
          obtain ⟨ad, rfl⟩ : ∃ ad, wa = some ad := by
            cases wa with
            | none => have := hwan rfl; omega
            | some ad => exact ⟨ad, rfl⟩
          have hbc : (n : Int) ≤ wc := by omega
          go_upto_region 12 with (fail)
          refine wp_region_quiet_tail 11 (by kernel_rfl) (by kernel_rfl) ?_
          simp only [List.take_succ_cons, List.take_zero, List.drop_succ_cons, List.drop_zero]
          repeat (first | go_big_quiet_step (fail) | quiet_step (fail))
          refine wpQuiet_nil ?_
          intro _ hw'
          obtain ⟨nq, hw''⟩ := hw'
          subst hw''
          go_wp2
          refine KEY.out _ _ _ _ _ _ _ _ _ _ _ _ _ _ _ _ _ _ _ _ _ _ _ ?_
          have h7 := HST.out.cutWit HUX6.out HROW.out HRIN.out n (by omega) nq
          simp only [List.set_set] at h7
          exact ⟨h7, FewSt.apart (S := S1) (T := T1) (w := w) (p := p) HST.out.at (by omega) nq HRES.out⟩
        focus
          go_wp2
          refine KEY.out _ _ _ _ _ _ _ _ _ _ _ _ _ _ _ _ _ _ _ _ _ _ _ ?_
          have h2 : d1.wit.take n = d1.wit := List.take_of_length_le (by omega)
          exact ⟨HST.out.same rfl rfl (by rw [h2]), HRES.out⟩
      intro us W7 hl hj7
      match us, hl with
      | [u1, u2, u3, u4, u5, u6, u7, u8, u9, u10, u11, u12, u13, u14, u15, u16, u17, u18, u19, u20, u21, u22], _ =>
      simp only [putAll, Act.put, List.setIfInBounds_toArray, List.set_cons_zero, List.set_cons_succ]
      clear hK1 K1 hK0 K0
      obtain ⟨hst7, hres7⟩ := hj7
      clear b0 b1 b2 b3 f1 f2 c32 c33 c34 c35 z33 z34 z35 hg hwc hwcm hwan HROW HRIN HST HRES HUX6
      generalize hV : d1.wit.take n = V at *
      have hVn : V.length ≤ 1000 := by rw [← hV]; simp; omega
      have HST := Lib.hid hst7; have HRES := Lib.hid hres7; have HV := Lib.hid hV
      clear hst7 hres7 hV
      generalize W7 = W8 at *
      generalize wr = wA at *
      go_wp2
      go_loopw [8] (fun c wr => ∃ j : Nat, j ≤ V.length ∧ c = .int .i64 j ∧ FewSt S1 T1 (p + 2) w wr p (.slice (some ⟨g, off, none⟩) L.length ic1) (.slice o1 M.length oc1) { d with ins := X.set i { d1 with wit := upto (List.take b) j V }, outs := M } ∧ Row wr (p + 1) 0 [.int .i32 0, .slice none 0 0, .slice none 0 0, .int .u32 0]) (fun c _ => (V.length - intOf c).toNat)
      case atStart => exact ⟨0, by omega, rfl, by rw [upto_zero]; exact HST.out, HRES.out⟩
      case round =>
        obtain ⟨j, hj, rfl, hst, hres⟩ := hrel
        obtain ⟨b0, b1, b2, b3⟩ := hst.cells
        simp only at b0 b1 b2 b3
        have hil9 := HIL.out
        have hux : (X.set i { d1 with wit := upto (List.take b) j V })[i]? = some { d1 with wit := upto (List.take b) j V } := List.getElem?_set_self HIL2.out
        obtain ⟨g', off', sv9, wv9, hgo, hg, hrow, hrin⟩ := hst.own.at hux
        cases hgo
        obtain ⟨c32, c33, c34, c35⟩ := at_index hrow hrin.ok.hashLen
        obtain ⟨wa9, wc9, hwe, hwc, hwcm, hwan⟩ := hrin.wit.any
        simp only [upto_length] at hwe hwc hwan
        subst hwe
        have HROW := Lib.hid hrow; have HRIN := Lib.hid hrin; have HST9 := Lib.hid hst; have HRES9 := Lib.hid hres; have HUX9 := Lib.hid hux
        by_cases hlt2 : j < V.length
        · obtain ⟨lj, hlj⟩ : ∃ lj, V[j]? = some lj := ⟨V[j], List.getElem?_eq_getElem hlt2⟩
          have huj := upto_get (List.take b) j V lj hlj
          obtain ⟨vs9, hrl⟩ := hrin.wit
          obtain ⟨gw, ow, u, rfl, hgw, hcu, hfu, hvu, hru⟩ := hrl.at j (by rw [upto_length]; exact hlt2)
          have hgd : (upto (List.take b) j V).getD j [] = lj := by simp only [List.getD, huj, Option.getD_some]
          simp only [hgd] at hru
          obtain ⟨ua, uc, rfl, huc, hucm, huan⟩ := hru.any
          have hstep := upto_step (List.take b) j V lj hlj
          have HRU := Lib.hid hru; have HSTEP := Lib.hid hstep; have HLJ := Lib.hid hlj
          clear hst hres hux hrow hrin hrl hru hstep hlj huj hgd hvu
          go_upto_region 16 with (fail)
          rename_i K1 hK1 K0 hK0
          refine wp_join [94, 95, 96, 97, 98, 99, 100, 101, 102, 103, 104, 105, 106, 107, 108, 109, 110, 111, 112, 113, 114, 115, 116, 117, 118, 119, 120, 121, 122, 123, 124] (fun W => FewSt S1 T1 (p + 2) w W p (.slice (some ⟨g, off, none⟩) L.length ic1) (.slice o1 M.length oc1) { d with ins := X.set i { d1 with wit := upto (List.take b) (j + 1) V }, outs := M } ∧ Row W (p + 1) 0 [.int .i32 0, .slice none 0 0, .slice none 0 0, .int .u32 0]) hK1 (fun key0 => ?_) ?_
          focus
            have key := fun u1 u2 u3 u4 u5 u6 u7 u8 u9 u10 u11 u12 u13 u14 u15 u16 u17 u18 u19 u20 u21 u22 u23 u24 u25 u26 u27 u28 u29 u30 u31 w' => key0 [u1, u2, u3, u4, u5, u6, u7, u8, u9, u10, u11, u12, u13, u14, u15, u16, u17, u18, u19, u20, u21, u22, u23, u24, u25, u26, u27, u28, u29, u30, u31] w' rfl
            clear key0 hK1
            simp only [putAll, Act.put, List.setIfInBounds_toArray, List.set_cons_zero, List.set_cons_succ] at key
            have KEY := Lib.hid key
            clear key
            by_cases hcut : b < lj.length
            focus
              obtain ⟨ad, rfl⟩ : ∃ ad, ua = some ad := by
                cases ua with
                | none => have := huan rfl; omega
                | some ad => exact ⟨ad, rfl⟩
              have hbc : (b : Int) ≤ uc := by omega
              go_upto_region 17 with (fail)
              refine wp_region_quiet_tail 18 (by kernel_rfl) (by kernel_rfl) ?_
              simp only [List.take_succ_cons, List.take_zero, List.drop_succ_cons, List.drop_zero]
              repeat (first | go_big_quiet_step (fail) | quiet_step (fail))
              refine wpQuiet_nil ?_
              intro _ hw'
              obtain ⟨nq, hw''⟩ := hw'
              subst hw''
              go_wp2
              refine KEY.out _ _ _ _ _ _ _ _ _ _ _ _ _ _ _ _ _ _ _ _ _ _ _ _ _ _ _ _ _ _ _ _ ?_
              have h7 := HST9.out.cutItem HUX9.out HROW.out HRIN.out j (by rw [upto_length]; exact hlt2) _ _ _ lj HRU.out b (by omega) nq
              simp only [List.set_set, HSTEP.out] at h7
              exact ⟨h7, FewSt.apart (S := S1) (T := T1) (w := w) (p := p) (HST9.out.own.fresh gw (.inr (.inl (HRIN.out.wit.foot gw rfl)))).1 (by omega) nq HRES9.out⟩
            focus
              go_wp2
              refine KEY.out _ _ _ _ _ _ _ _ _ _ _ _ _ _ _ _ _ _ _ _ _ _ _ _ _ _ _ _ _ _ _ _ ?_
              have h2 : lj.take b = lj := List.take_of_length_le (by omega)
              exact ⟨HST9.out.same rfl rfl (by rw [upto_skip (List.take b) j V lj HLJ.out h2]), HRES9.out⟩
          intro us W10 hl hj10
          match us, hl with
          | [u1, u2, u3, u4, u5, u6, u7, u8, u9, u10, u11, u12, u13, u14, u15, u16, u17, u18, u19, u20, u21, u22, u23, u24, u25, u26, u27, u28, u29, u30, u31], _ =>
          simp only [putAll, Act.put, List.setIfInBounds_toArray, List.set_cons_zero, List.set_cons_succ]
          clear hK1 K1 hK0 K0
          obtain ⟨hst10, hres10⟩ := hj10
          clear b0 b1 b2 b3 c32 c33 c34 c35 hg hwc hwcm hwan HROW HRIN HUX9 hcu hfu HST9 HRES9 HRU
          have HST10 := Lib.hid hst10; have HRES10 := Lib.hid hres10
          clear hst10 hres10
          go_wp2
          go_roundw
          case rel => exact ⟨j + 1, by omega, by go_num, HST10.out, HRES10.out⟩
          case measure => simp [intOf]; omega
        · obtain rfl : j = V.length := by omega
          clear hst hres hux hrow hrin
          go_wp2
          go_roundw
          case rel =>
            refine ⟨i + 1, by omega, by go_num, HST9.out.same rfl rfl ?_, HRES9.out⟩
            have e : ({ d1 with wit := upto (List.take b) V.length V } : InD) = trimIn n b di := by
              rw [upto_all, ← HV.out, ← HD1.out]; rfl
            rw [e, HUS.out]
          case measure => simp [intOf]; omega
    · obtain rfl : i = L.length := by omega
      rw [upto_all] at hst
      have HST9 := Lib.hid hst; have HRES9 := Lib.hid hres
      clear hst hres
      generalize wr = wA at *
      go_wp2
      go_loopw [9] (fun c wr => ∃ i : Nat, i ≤ M.length ∧ c = .int .i64 i ∧ FewSt S1 T1 (p + 2) w wr p (.slice i1 L.length ic1) (.slice o1 M.length oc1) { d with ins := L.map (trimIn n b), outs := upto (trimOut b) i M } ∧ Row wr (p + 1) 0 [.int .i32 0, .slice none 0 0, .slice none 0 0, .int .u32 0]) (fun c _ => (M.length - intOf c).toNat)
      case atStart => exact ⟨0, by omega, rfl, by rw [upto_zero]; exact HST9.out, HRES9.out⟩
      case round =>
        obtain ⟨i, hi, rfl, hst, hres⟩ := hrel
        clear b0 b1 b2 b3 f1 f2
        obtain ⟨b0, b1, b2, b3⟩ := hst.cells
        simp only at b0 b1 b2 b3
        by_cases hlt2 : i < M.length
        · obtain ⟨di, hdi⟩ : ∃ di, M[i]? = some di := ⟨M[i], List.getElem?_eq_getElem hlt2⟩
          have hux := upto_get (trimOut b) i M di hdi
          have hus := upto_step (trimOut b) i M di hdi
          have HUX := Lib.hid hux; have HUS := Lib.hid hus; have HST := Lib.hid hst; have HRES := Lib.hid hres
          generalize upto (trimOut b) i M = X at *
          obtain ⟨g, off, sv, rfl, hg, hrow, hrb, hi64⟩ := hst.own.atOut hux
          obtain ⟨c0, c1⟩ := at_value hrow
          have z1 : wr.frozen? ⟨g, off + i * 2 + 1, none⟩ = false := (hrow 1 sv rfl).2
          obtain ⟨sa, sc, rfl, hsc, hscm, hsan⟩ := hrb.any
          have HROW := Lib.hid hrow; have HRB := Lib.hid hrb
          clear hst hres hux hus hrow hrb hdi
          go_upto_region 21 with (fail)
          rename_i K1 hK1 K0 hK0
          refine wp_join [132, 133, 134, 135, 136, 137, 138, 139, 140, 141, 142, 143, 144, 145, 146, 147, 148, 149, 150, 151, 152, 153] (fun W => FewSt S1 T1 (p + 2) w W p (.slice i1 L.length ic1) (.slice (some ⟨g, off, none⟩) M.length oc1) { d with ins := L.map (trimIn n b), outs := upto (trimOut b) (i + 1) M } ∧ Row W (p + 1) 0 [.int .i32 0, .slice none 0 0, .slice none 0 0, .int .u32 0]) hK1 (fun key0 => ?_) ?_
          focus
            have key := fun u1 u2 u3 u4 u5 u6 u7 u8 u9 u10 u11 u12 u13 u14 u15 u16 u17 u18 u19 u20 u21 u22 w' => key0 [u1, u2, u3, u4, u5, u6, u7, u8, u9, u10, u11, u12, u13, u14, u15, u16, u17, u18, u19, u20, u21, u22] w' rfl
            clear key0 hK1
            simp only [putAll, Act.put, List.setIfInBounds_toArray, List.set_cons_zero, List.set_cons_succ] at key
            have KEY := Lib.hid key
            clear key
            by_cases hcut : b < di.script.length
            focus
              obtain ⟨ad, rfl⟩ : ∃ ad, sa = some ad := by
                cases sa with
                | none => have := hsan rfl; omega
                | some ad => exact ⟨ad, rfl⟩
              have hbc : (b : Int) ≤ sc := by omega
              go_upto_region 22 with (fail)
              refine wp_region_quiet_tail 11 (by kernel_rfl) (by kernel_rfl) ?_
              simp only [List.take_succ_cons, List.take_zero, List.drop_succ_cons, List.drop_zero]
              repeat (first | go_big_quiet_step (fail) | quiet_step (fail))
              refine wpQuiet_nil ?_
              intro _ hw'
              obtain ⟨nq, hw''⟩ := hw'
              subst hw''
              go_wp2
              refine KEY.out _ _ _ _ _ _ _ _ _ _ _ _ _ _ _ _ _ _ _ _ _ _ _ ?_
              have h7 := HST.out.cutOut HUX.out HROW.out HRB.out hi64 b (by omega) nq
              refine ⟨h7.same rfl rfl ?_, FewSt.apart (S := S1) (T := T1) (w := w) (p := p) (HST.out.own.fresh g (.inr (.inr (.inr rfl)))).1 (by omega) nq HRES.out⟩
              rw [← HUS.out]; rfl
            focus
              go_wp2
              refine KEY.out _ _ _ _ _ _ _ _ _ _ _ _ _ _ _ _ _ _ _ _ _ _ _ ?_
              have h2 : di.script.take b = di.script := List.take_of_length_le (by omega)
              have h3 : trimOut b di = di := by unfold trimOut; rw [h2]
              exact ⟨HST.out.same rfl rfl (by rw [← HUS.out, h3, set_self X i _ HUX.out]), HRES.out⟩
          intro us W10 hl hj10
          match us, hl with
          | [u1, u2, u3, u4, u5, u6, u7, u8, u9, u10, u11, u12, u13, u14, u15, u16, u17, u18, u19, u20, u21, u22], _ =>
          simp only [putAll, Act.put, List.setIfInBounds_toArray, List.set_cons_zero, List.set_cons_succ]
          clear hK1 K1 hK0 K0
          obtain ⟨hst10, hres10⟩ := hj10
          clear b0 b1 b2 b3 c0 c1 hg hsc hscm hsan HROW HRB HUX z1 HST HRES HUS
          have HST10 := Lib.hid hst10; have HRES10 := Lib.hid hres10
          clear hst10 hres10
          go_wp2
          go_roundw
          case rel => exact ⟨i + 1, by omega, by go_num, HST10.out, HRES10.out⟩
          case measure => simp [intOf]; omega
        · obtain rfl : i = M.length := by omega
          rw [upto_all] at hst
          have HSTF := Lib.hid hst; have HRESF := Lib.hid hres
          clear hst hres
          have hlo := HSTF.out.low
          go_wp2_with (first | (refine wpList_load_at rfl 46 (.tmp 3) rfl p 0 rfl _ _ HSTF.out.row Tryz.underlying46 rfl (sz_tx _ _ _ _) ?_) | (refine wpList_store_row rfl 46 (.tmp 6) (.tmp 154) rfl (p + 1) 0 rfl _ [.int .i32 d.ver, .slice i1 L.length ic1, .slice o1 M.length oc1, .int .u32 d.lock] rfl HRESF.out rfl (sz_tx _ _ _ _) (four_one _ _ _ _ _ _ _ _) ?_; intro W9 hr9 hc9; have HR9 := Lib.hid hr9; have HC9 := Lib.hid hc9; clear hr9 hc9))
          refine bodyPost_ret (results_cell_at rfl _ _ (p + 1) 0 _ _ (by simp only [Act.put, List.setIfInBounds_toArray, List.set_cons_zero, List.set_cons_succ]; rfl) HR9.out Tryz.underlying46 rfl (sz_tx _ _ _ _)) rfl ?_
          refine ⟨_, _, rfl, keeps_chg HSTF.out.keeps HC9.out (by omega), _, _, ((HSTF.out.own.chg HC9.out (fun g e => .inl (by omega))).low (by omega)).same ?_⟩
          unfold fewD
          rw [HL.out, HM.out]
end Go.Proofs.YtcodpdpeklammaaGreatDoor
