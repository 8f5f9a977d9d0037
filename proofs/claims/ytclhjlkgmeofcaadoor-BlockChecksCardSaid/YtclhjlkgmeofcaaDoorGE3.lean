/- strongboxref09.Check. -/
import Derived.Test.YtclhjlkgmeofcaaDoorGB8
namespace Go.Proofs.YtclhjlkgmeofcaaDoor
set_option linter.unusedVariables false
set_option linter.unusedSimpArgs false
open Go Go.RowKit

set_option maxRecDepth 100000 in
set_option maxHeartbeats 4000000 in
theorem rcheck_any (S T R : Nat → Prop) (d : TxD) (iv ov : Value) (hf : Fits d) (w : World) (h : RTx S T R w iv ov d) :
    Calls Tryd.prog 47 #[.agg #[.int .i32 d.ver, iv, ov, .int .u32 d.lock]] w fun e w' => ∃ r : Int, e = .returned (.int .i64 r) ∧ Chk d r ∧ Keeps w w' := by
  have HT := Lib.hid h; have HI := Lib.hid h.ins; have HOU := Lib.hid h.outs
  obtain ⟨ia, ic, rfl, hic, hicm, -⟩ := h.ins.any
  obtain ⟨oa, oc, rfl, hoc, hocm, -⟩ := h.outs.any
  have hism : d.ins.length * 96 ≤ 140737488355328 := by obtain ⟨_, _, h⟩ := h.ins; exact h.small
  have hosm : d.outs.length * 32 ≤ 140737488355328 := by obtain ⟨_, _, h⟩ := h.outs; exact h.small
  clear h
  have HENC := Lib.hid (fun W (hk : Keeps w W) => renc_any S T R d _ _ false hf W (HT.out.keeps hk))
  have HCB := Lib.hid (fun W (hk : Keeps w W) => rcoinbase_any S T R d _ _ W (HT.out.keeps hk))
  obtain ⟨CHK, hchk⟩ : ∃ C : Int → Prop, C = Chk d := ⟨_, rfl⟩
  rw [← hchk]
  have HCHK := Lib.hid hchk
  clear hchk
  by_cases hA : d.ins.length = 0 ∨ d.outs.length = 0
  · have hr : CHK 3 := by rw [HCHK.out]; exact ⟨fun _ => rfl, fun h => absurd hA h⟩
    have hsp : d.ins.length = 0 ∨ (¬ d.ins.length = 0 ∧ d.outs.length = 0) := by omega
    clear hA
    rcases hsp with h1 | ⟨h1, h2⟩
    all_goals
      have hz1 : ((d.ins.length : Int) = 0) ∨ ¬ ((d.ins.length : Int) = 0) := by omega
      go_enter Tryd.func47, Tryd.ntmps47
      go_upto_region 1 with (fail)
      refine wp_rows1 (fun W0 hk hr1 hs1 => ?_)
      simp only at hr1
      obtain ⟨b0, b1, b2, b3⟩ := hr1.cell4
      have HK := Lib.hid hk
      clear hk hr1 hs1
      go_wp2
      all_goals go_ret
      all_goals exact ⟨_, rfl, hr, HK.out⟩
  · have hi0 : ¬ d.ins.length = 0 := by omega
    have ho0 : ¬ d.outs.length = 0 := by omega
    have hz1 : ((d.ins.length : Int) == 0) = false := beq_eq_false_iff_ne.2 (by omega)
    have hz2 : ((d.outs.length : Int) == 0) = false := beq_eq_false_iff_ne.2 (by omega)
    have HA := Lib.hid hA
    clear hA
    by_cases hB : 100000 < (encB d false).length
    · have hr : CHK 2 := by rw [HCHK.out]; exact ⟨fun h => absurd h HA.out, fun _ => ⟨fun _ => rfl, fun h => absurd hB h⟩⟩
      generalize encB d false = EB at *
      go_enter Tryd.func47, Tryd.ntmps47
      go_upto_region 1 with (fail)
      refine wp_rows1 (fun W0 hk hr1 hs1 => ?_)
      simp only at hr1
      obtain ⟨b0, b1, b2, b3⟩ := hr1.cell4
      have HK := Lib.hid hk
      clear hk hr1 hs1
      go_wp2_with (go_at_call 34; refine (HENC.out _ HK.out).mono ?_; rintro e W2 ⟨v2, rfl, hO2⟩; obtain ⟨a2, c2, rfl⟩ := hO2.any; have HO2 := Lib.hid hO2; clear hO2)
      go_ret
      exact ⟨_, rfl, hr, HK.out.trans HO2.out.keeps⟩
    · have HB := Lib.hid hB
      have hEB : (encB d false).length ≤ 100000 := by omega
      clear hB
      have HCH2 := Lib.hid (fun (r : Int) (h : ((addGo 0 (d.outs.map (·.value))).2 ≠ 0 → r = 6) ∧ ((addGo 0 (d.outs.map (·.value))).2 = 0 →
        (Dup d.ins → r = 18) ∧ (¬ Dup d.ins →
          (cbD d = true → (BadSize d → r = 3) ∧ (¬ BadSize d → r = 0)) ∧ (cbD d = false → (AnyEmpty d → r = 7) ∧ (¬ AnyEmpty d → r = 0))))) => show CHK r by rw [HCHK.out]; exact ⟨fun h => absurd h HA.out, fun _ => ⟨fun h => absurd h HB.out, fun _ => h⟩⟩)
      clear HA HB HCHK
      generalize encB d false = EB at *
      go_enter Tryd.func47, Tryd.ntmps47
      go_upto_region 1 with (fail)
      refine wp_rows1 (fun W0 hk hr1 hs1 => ?_)
      simp only at hr1
      have HK := Lib.hid hk; have HR := Lib.hid hr1
      obtain ⟨b0, b1, b2, b3⟩ := hr1.cell4
      clear hk hr1 hs1
      generalize w.heap.size = p at *
      go_upto_region 6 with (go_at_call 34; refine (HENC.out _ HK.out).mono ?_; rintro e W2 ⟨v2, rfl, hO2⟩; obtain ⟨a2, c2, rfl⟩ := hO2.any; have HO2 := Lib.hid hO2; clear hO2)
      clear b0 b1 b2 b3
      have hcell : ∀ W, Keeps W0 W → W.cell? ⟨p, 0, none⟩ = some (.int .i32 d.ver) ∧ W.cell? ⟨p, 1, none⟩ = some (.slice ia d.ins.length ic) ∧ W.cell? ⟨p, 2, none⟩ = some (.slice oa d.outs.length oc) ∧ W.cell? ⟨p, 3, none⟩ = some (.int .u32 d.lock) := fun W hk => (HR.out.keeps hk).cell4
      have HCE := Lib.hid hcell
      clear hcell
      have HKE := Lib.hid HO2.out.keeps
      obtain ⟨b0, b1, b2, b3⟩ := HCE.out _ HKE.out
      clear HO2
      have HVL : Hid (∀ i di, d.outs[i]? = some di → (d.outs.map (·.value)).getD i 0 = di.value) := Lib.hid (fun i di h => by simp [List.getD, h])
      have hvl : (d.outs.map (·.value)).length = d.outs.length := by simp
      generalize d.outs.map (·.value) = VL at *
      go_wp2
      go_loopw [3, 4] (fun s c wr => ∃ (i : Nat) (sn : Int), i ≤ d.outs.length ∧ c = .int .i64 i ∧ s = .int .i64 sn ∧ 0 ≤ sn ∧ sn ≤ 2100000000000000 ∧ Hid (Keeps W0 wr) ∧ Hid (addGo 0 VL = addGo sn (VL.drop i))) (fun _ c _ => (d.outs.length - intOf c).toNat)
      case atStart => exact ⟨0, 0, by omega, rfl, rfl, by omega, by omega, HKE, Lib.hid (by simp)⟩
      case round =>
        obtain ⟨i, sn, hi, rfl, rfl, h0, h1, HKR, HG⟩ := hrel
        clear b0 b1 b2 b3
        obtain ⟨b0, b1, b2, b3⟩ := HCE.out _ HKR.out
        by_cases hlt : i < d.outs.length
        · obtain ⟨g, off, sv, di, rfl, hg, hdi, hrow, hrb, hi64⟩ := (HOU.out.keeps (HK.out.trans HKR.out)).at i hlt
          obtain ⟨e0, -⟩ := at_value hrow
          have hstep := addGo_cons sn VL i (by omega)
          rw [HVL.out i di hdi] at hstep
          obtain ⟨hi1, hi2⟩ := hi64
          clear hdi hrow hrb
          generalize di.value = z at *
          by_cases hv : validB z = true
          · have hvz := validB_of hv
            by_cases hs : validB (sn + z) = true
            · have hvs := validB_of hs
              rw [hv, hs] at hstep
              have HS := Lib.hid hstep; clear hstep
              go_wp2_with (go_at_call 91; refine (rvalid_any _ _).mono ?_; rintro e w' ⟨rfl, rfl⟩)
              go_roundw
              case rel => exact ⟨i + 1, sn + z, by omega, by go_num, rfl, by omega, by omega, HKR, Lib.hid (HG.out.trans HS.out)⟩
              case measure => simp [intOf]; omega
            · have hs' : validB (sn + z) = false := by simpa using hs
              rw [hv, hs'] at hstep
              have HS := Lib.hid hstep; clear hstep hs
              have hr : CHK 6 := HCH2.out 6 ⟨fun _ => rfl, fun h => by rw [HG.out, HS.out] at h; simp at h⟩
              clear HG HS HCH2
              go_wp2_with (go_at_call 91; refine (rvalid_any _ _).mono ?_; rintro e w' ⟨rfl, rfl⟩)
              go_ret
              exact ⟨_, rfl, hr, HK.out.trans HKR.out⟩
          · have hv' : validB z = false := by simpa using hv
            rw [hv'] at hstep
            have HS := Lib.hid hstep; clear hstep hv
            have hr : CHK 6 := HCH2.out 6 ⟨fun _ => rfl, fun h => by rw [HG.out, HS.out] at h; simp at h⟩
            clear HG HS HCH2
            go_wp2_with (go_at_call 91; refine (rvalid_any _ _).mono ?_; rintro e w' ⟨rfl, rfl⟩)
            go_ret
            exact ⟨_, rfl, hr, HK.out.trans HKR.out⟩
        · obtain rfl : i = d.outs.length := by omega
          have hz : (addGo 0 VL).2 = 0 := by rw [HG.out, List.drop_eq_nil_of_le (by omega)]; rfl
          have HCH3 := Lib.hid (fun (r : Int) (h : (Dup d.ins → r = 18) ∧ (¬ Dup d.ins → (cbD d = true → (BadSize d → r = 3) ∧ (¬ BadSize d → r = 0)) ∧ (cbD d = false → (AnyEmpty d → r = 7) ∧ (¬ AnyEmpty d → r = 0)))) => HCH2.out r ⟨fun h => absurd hz h, fun _ => h⟩)
          clear HCH2 HG hz HVL hvl
          generalize wr = wA at *
          go_wp2
          go_loopw [5, 6] (fun ev c wr => ∃ (i : Nat) (eb : Bool), i ≤ d.ins.length ∧ c = .int .i64 i ∧ ev = .bool eb ∧ Hid (Keeps W0 wr) ∧ Hid (eb = true ↔ ∃ x ∈ d.ins.take i, isEmptyD x = true) ∧ Hid (NoDup d.ins i)) (fun _ c _ => (d.ins.length - intOf c).toNat)
          case atStart => exact ⟨0, false, by omega, rfl, rfl, HKR, Lib.hid (by simp), Lib.hid (fun m k a b hm => by omega)⟩
          case round =>
            obtain ⟨i, eb, hi2, rfl, rfl, HKS, HEB, HND⟩ := hrel
            clear b0 b1 b2 b3
            obtain ⟨b0, b1, b2, b3⟩ := HCE.out _ HKS.out
            by_cases hlt2 : i < d.ins.length
            · generalize wr = wB at *
              obtain ⟨g, off, sv, wv, di, rfl, hg, hdi, hrow, hrin⟩ := (HI.out.keeps (HK.out.trans HKS.out)).at i hlt2
              have HOK := Lib.hid hrin.ok; have HDI := Lib.hid hdi
              have HPT := Lib.hid (first_pt hrow hrin.ok.hashLen)
              clear hdi hrow hrin
              go_wp2
              go_loopw [7] (fun c wr => ∃ k : Nat, k ≤ i ∧ c = .int .i64 k ∧ Hid (Keeps wB wr) ∧ Hid (∀ k' b, k' < k → d.ins[k']? = some b → ¬ SamePt di b)) (fun c _ => (i - intOf c).toNat)
              case atStart => exact ⟨0, by omega, rfl, Lib.hid (Keeps.refl _), Lib.hid (fun k' b h => by omega)⟩
              case round =>
                obtain ⟨k, hk, rfl, HKT, HNK⟩ := hrel
                clear b0 b1 b2 b3
                obtain ⟨b0, b1, b2, b3⟩ := HCE.out _ (HKS.out.trans HKT.out)
                by_cases hlt3 : k < i
                · obtain ⟨g2, off2, sv2, wv2, dk, e2, hg2, hdk, hrow2, hrin2⟩ := (HI.out.keeps (HK.out.trans (HKS.out.trans HKT.out))).at k (by omega)
                  cases e2
                  have HOK2 := Lib.hid hrin2.ok; have HDK := Lib.hid hdk
                  have HPT2 := Lib.hid (first_pt hrow2 hrin2.ok.hashLen)
                  have HPT1 := Lib.hid (HPT.out.keeps HKT.out)
                  have HEQ := Lib.hid (fun W => pt_equal W di.hash dk.hash di.index dk.index HOK.out.hashLen HOK.out.hash HOK.out.index HOK2.out.hashLen HOK2.out.hash HOK2.out.index)
                  clear hdk hrow2 hrin2 b0 b1 b2 b3
                  obtain ⟨sm, hsm⟩ : ∃ sm : Bool, sm = decide (di.hash = dk.hash ∧ di.index = dk.index) := ⟨_, rfl⟩
                  rw [← hsm] at HEQ
                  have HSM := Lib.hid hsm
                  clear hsm
                  have hkd : k < d.ins.length := by omega
                  go_upto_region 19 with (fail)
                  refine wp_region_head (S := fun W => Hid ((fun W => Keeps wr W ∧ W.cell? ⟨p, 1, none⟩ = some (.slice (some ⟨g, off, none⟩) d.ins.length ic)) W)) 12 (by kernel_rfl) (by kernel_rfl) ?_ (fun hHeld => ?_)
                  focus exact Lib.hid ⟨keeps_drew (Keeps.refl _), (HCE.out _ ((HKS.out.trans HKT.out).trans (keeps_drew (Keeps.refl _)))).2.1⟩
                  refine wpAnyHL_take (i := 0) (oi := ?_) (v := ?_) ?_ ?_ ?_ ?_ ?_ ?_ ?_ ?_ ?_ (Or.inl ⟨?_, ?_⟩) ?_ ?_
                  rotate_left 2
                  focus (simp only [List.getElem?_toArray, List.getElem?_cons_succ, List.getElem?_cons_zero]; exact rfl)
                  focus kernel_rfl
                  focus kernel_rfl
                  focus kernel_rfl
                  focus kernel_rfl
                  focus kernel_rfl
                  focus kernel_rfl
                  focus kernel_rfl
                  focus (exact fun _ _ _ h => h)
                  focus rfl
                  focus ((intro wSw hSw; (have hSw := hSw.out); (try dsimp only at hSw); go_simp) <;> with_reducible rfl)
                  focus assumption
                  try simp only [Act.put, List.setIfInBounds_toArray, List.set_cons_zero, List.set_cons_succ]
                  refine wpAnyHL_take (i := 1) (oi := ?_) (v := ?_) ?_ ?_ ?_ ?_ ?_ ?_ ?_ ?_ ?_ (Or.inl ⟨?_, ?_⟩) ?_ ?_
                  rotate_left 2
                  focus (simp only [List.getElem?_toArray, List.getElem?_cons_succ, List.getElem?_cons_zero]; exact rfl)
                  focus kernel_rfl
                  focus kernel_rfl
                  focus kernel_rfl
                  focus kernel_rfl
                  focus kernel_rfl
                  focus kernel_rfl
                  focus kernel_rfl
                  focus (exact fun _ _ _ h => h)
                  focus rfl
                  focus ((intro wSw hSw; (have hSw := hSw.out); (try dsimp only at hSw); go_simp) <;> with_reducible rfl)
                  focus assumption
                  try simp only [Act.put, List.setIfInBounds_toArray, List.set_cons_zero, List.set_cons_succ]
                  refine wpAnyHL_take (i := 2) (oi := ?_) (v := ?_) ?_ ?_ ?_ ?_ ?_ ?_ ?_ ?_ ?_ (Or.inl ⟨?_, ?_⟩) ?_ ?_
                  rotate_left 2
                  focus (simp only [List.getElem?_toArray, List.getElem?_cons_succ, List.getElem?_cons_zero]; exact rfl)
                  focus kernel_rfl
                  focus kernel_rfl
                  focus kernel_rfl
                  focus kernel_rfl
                  focus kernel_rfl
                  focus kernel_rfl
                  focus kernel_rfl
                  focus (exact fun _ _ _ h => h)
                  focus rfl
                  focus ((intro wSw hSw; (have hSw := hSw.out); (try dsimp only at hSw); go_simp) <;> with_reducible rfl)
                  focus assumption
                  try simp only [Act.put, List.setIfInBounds_toArray, List.set_cons_zero, List.set_cons_succ]
                  refine wpAnyHL_take (i := 3) (oi := ?_) (v := ?_) ?_ ?_ ?_ ?_ ?_ ?_ ?_ ?_ ?_ (Or.inl ⟨?_, ?_⟩) ?_ ?_
                  rotate_left 2
                  focus (simp only [List.getElem?_toArray, List.getElem?_cons_succ, List.getElem?_cons_zero]; exact rfl)
                  focus kernel_rfl
                  focus kernel_rfl
                  focus kernel_rfl
                  focus kernel_rfl
                  focus kernel_rfl
                  focus kernel_rfl
                  focus kernel_rfl
                  focus (exact fun _ _ _ h => h)
                  focus rfl
                  focus ((intro wSw hSw; (have hSw := hSw.out); (try dsimp only at hSw); go_simp) <;> with_reducible rfl)
                  focus assumption
                  try simp only [Act.put, List.setIfInBounds_toArray, List.set_cons_zero, List.set_cons_succ]
                  refine wpAnyHL_take (i := 4) (oi := ?_) (v := ?_) ?_ ?_ ?_ ?_ ?_ ?_ ?_ ?_ ?_ (Or.inl ⟨?_, ?_⟩) ?_ ?_
                  rotate_left 2
                  focus (simp only [List.getElem?_toArray, List.getElem?_cons_succ, List.getElem?_cons_zero]; exact rfl)
                  focus kernel_rfl
                  focus kernel_rfl
                  focus kernel_rfl
                  focus kernel_rfl
                  focus kernel_rfl
                  focus kernel_rfl
                  focus kernel_rfl
                  focus (exact fun _ _ _ h => h)
                  focus rfl
                  focus ((intro wSw hSw; (have hSw := hSw.out); (try dsimp only at hSw); go_simp) <;> with_reducible rfl)
                  focus assumption
                  try simp only [Act.put, List.setIfInBounds_toArray, List.set_cons_zero, List.set_cons_succ]
                  refine wpAnyHL_take (i := 5) (oi := ?_) (v := ?_) ?_ ?_ ?_ ?_ ?_ ?_ ?_ ?_ ?_ (Or.inl ⟨?_, ?_⟩) ?_ ?_
                  rotate_left 2
                  focus (simp only [List.getElem?_toArray, List.getElem?_cons_succ, List.getElem?_cons_zero]; exact rfl)
                  focus kernel_rfl
                  focus kernel_rfl
                  focus kernel_rfl
                  focus kernel_rfl
                  focus kernel_rfl
                  focus kernel_rfl
                  focus kernel_rfl
                  focus (exact fun _ _ _ h => h)
                  focus rfl
                  focus (intro wSw hSw; (have hSw := hSw.out); (refine run_load_row 124 (.tmp 73) ?_ g (off + i * 36) ?_ (ptCells di.hash di.index) _ (HPT1.out.keeps hSw.1) Tryd.underlying124 rfl (sz_pt _ _ HOK.out.hashLen)) <;> rfl)
                  focus assumption
                  try simp only [Act.put, List.setIfInBounds_toArray, List.set_cons_zero, List.set_cons_succ]
                  refine wpAnyHL_take (i := 6) (oi := ?_) (v := ?_) ?_ ?_ ?_ ?_ ?_ ?_ ?_ ?_ ?_ (Or.inl ⟨?_, ?_⟩) ?_ ?_
                  rotate_left 2
                  focus (simp only [List.getElem?_toArray, List.getElem?_cons_succ, List.getElem?_cons_zero]; exact rfl)
                  focus kernel_rfl
                  focus kernel_rfl
                  focus kernel_rfl
                  focus kernel_rfl
                  focus kernel_rfl
                  focus kernel_rfl
                  focus kernel_rfl
                  focus (exact fun _ _ _ h => h)
                  focus rfl
                  focus ((intro wSw hSw; (have hSw := hSw.out); (try dsimp only at hSw); go_simp) <;> with_reducible rfl)
                  focus assumption
                  try simp only [Act.put, List.setIfInBounds_toArray, List.set_cons_zero, List.set_cons_succ]
                  refine wpAnyHL_take (i := 7) (oi := ?_) (v := ?_) ?_ ?_ ?_ ?_ ?_ ?_ ?_ ?_ ?_ (Or.inl ⟨?_, ?_⟩) ?_ ?_
                  rotate_left 2
                  focus (simp only [List.getElem?_toArray, List.getElem?_cons_succ, List.getElem?_cons_zero]; exact rfl)
                  focus kernel_rfl
                  focus kernel_rfl
                  focus kernel_rfl
                  focus kernel_rfl
                  focus kernel_rfl
                  focus kernel_rfl
                  focus kernel_rfl
                  focus (exact fun _ _ _ h => h)
                  focus rfl
                  focus ((intro wSw hSw; (have hSw := hSw.out); (try dsimp only at hSw); go_simp) <;> with_reducible rfl)
                  focus assumption
                  try simp only [Act.put, List.setIfInBounds_toArray, List.set_cons_zero, List.set_cons_succ]
                  refine wpAnyHL_take (i := 8) (oi := ?_) (v := ?_) ?_ ?_ ?_ ?_ ?_ ?_ ?_ ?_ ?_ (Or.inl ⟨?_, ?_⟩) ?_ ?_
                  rotate_left 2
                  focus (simp only [List.getElem?_toArray, List.getElem?_cons_succ, List.getElem?_cons_zero]; exact rfl)
                  focus kernel_rfl
                  focus kernel_rfl
                  focus kernel_rfl
                  focus kernel_rfl
                  focus kernel_rfl
                  focus kernel_rfl
                  focus kernel_rfl
                  focus (exact fun _ _ _ h => h)
                  focus rfl
                  focus ((intro wSw hSw; (have hSw := hSw.out); (try dsimp only at hSw); go_simp) <;> with_reducible rfl)
                  focus assumption
                  try simp only [Act.put, List.setIfInBounds_toArray, List.set_cons_zero, List.set_cons_succ]
                  refine wpAnyHL_take (i := 9) (oi := ?_) (v := ?_) ?_ ?_ ?_ ?_ ?_ ?_ ?_ ?_ ?_ (Or.inl ⟨?_, ?_⟩) ?_ ?_
                  rotate_left 2
                  focus (simp only [List.getElem?_toArray, List.getElem?_cons_succ, List.getElem?_cons_zero]; exact rfl)
                  focus kernel_rfl
                  focus kernel_rfl
                  focus kernel_rfl
                  focus kernel_rfl
                  focus kernel_rfl
                  focus kernel_rfl
                  focus kernel_rfl
                  focus (exact fun _ _ _ h => h)
                  focus rfl
                  focus ((intro wSw hSw; (have hSw := hSw.out); (try dsimp only at hSw); go_simp) <;> with_reducible rfl)
                  focus assumption
                  try simp only [Act.put, List.setIfInBounds_toArray, List.set_cons_zero, List.set_cons_succ]
                  refine wpAnyHL_take (i := 10) (oi := ?_) (v := ?_) ?_ ?_ ?_ ?_ ?_ ?_ ?_ ?_ ?_ (Or.inl ⟨?_, ?_⟩) ?_ ?_
                  rotate_left 2
                  focus (simp only [List.getElem?_toArray, List.getElem?_cons_succ, List.getElem?_cons_zero]; exact rfl)
                  focus kernel_rfl
                  focus kernel_rfl
                  focus kernel_rfl
                  focus kernel_rfl
                  focus kernel_rfl
                  focus kernel_rfl
                  focus kernel_rfl
                  focus (exact fun _ _ _ h => h)
                  focus rfl
                  focus ((intro wSw hSw; (have hSw := hSw.out); (try dsimp only at hSw); go_simp) <;> with_reducible rfl)
                  focus assumption
                  try simp only [Act.put, List.setIfInBounds_toArray, List.set_cons_zero, List.set_cons_succ]
                  refine wpAnyHL_take (i := 11) (oi := ?_) (v := ?_) ?_ ?_ ?_ ?_ ?_ ?_ ?_ ?_ ?_ (Or.inl ⟨?_, ?_⟩) ?_ ?_
                  rotate_left 2
                  focus (simp only [List.getElem?_toArray, List.getElem?_cons_succ, List.getElem?_cons_zero]; exact rfl)
                  focus kernel_rfl
                  focus kernel_rfl
                  focus kernel_rfl
                  focus kernel_rfl
                  focus kernel_rfl
                  focus kernel_rfl
                  focus kernel_rfl
                  focus (exact fun _ _ _ h => h)
                  focus rfl
                  focus (intro wSw hSw; (have hSw := hSw.out); (refine run_load_row 124 (.tmp 79) ?_ g (off + k * 36) ?_ (ptCells dk.hash dk.index) _ (HPT2.out.keeps hSw.1) Tryd.underlying124 rfl (sz_pt _ _ HOK2.out.hashLen)) <;> rfl)
                  focus assumption
                  try simp only [Act.put, List.setIfInBounds_toArray, List.set_cons_zero, List.set_cons_succ]
                  refine wpAnyHL_done (by kernel_rfl) ?_
                  try simp only [List.drop_succ_cons, List.drop_zero]
                  cases sm
                  · go_wp2_with (refine wpList_eql_at (by kernel_rfl) 124 124 (.tmp 74) (.tmp 80) rfl _ _ rfl rfl _ HEQ.out (by kernel_rfl) ?_)
                    go_roundw
                    case rel =>
                      refine ⟨k + 1, by omega, by go_num, Lib.hid (HKT.out.trans hHeld.out.1), Lib.hid ?_⟩
                      intro k' b h3 h4 hsame
                      by_cases e : k' = k
                      · subst e
                        rw [HDK.out] at h4
                        cases h4
                        exact (of_decide_eq_false HSM.out.symm : ¬ (di.hash = dk.hash ∧ di.index = dk.index)) hsame
                      · exact HNK.out k' b (by omega) h4 hsame
                    case measure => simp [intOf]; omega
                  · have hdup : Dup d.ins := ⟨i, k, di, dk, hlt3, HDI.out, HDK.out, (of_decide_eq_true HSM.out.symm : di.hash = dk.hash ∧ di.index = dk.index)⟩
                    have hr : CHK 18 := HCH3.out 18 ⟨fun _ => rfl, fun h => absurd hdup h⟩
                    clear hdup
                    go_wp2_with (refine wpList_eql_at (by kernel_rfl) 124 124 (.tmp 74) (.tmp 80) rfl _ _ rfl rfl _ HEQ.out (by kernel_rfl) ?_)
                    go_ret
                    exact ⟨_, rfl, hr, HK.out.trans ((HKS.out.trans HKT.out).trans hHeld.out.1)⟩
                · obtain rfl : k = i := by omega
                  generalize wr = wC at *
                  have HPT1 := Lib.hid (HPT.out.keeps HKT.out)
                  have HEM := Lib.hid (fun W => rempty_any di.hash di.index HOK.out.hashLen HOK.out.hash HOK.out.index W)
                  have htk : d.ins.take (k + 1) = d.ins.take k ++ [di] := by rw [List.take_add_one, HDI.out]; rfl
                  have HTK := Lib.hid htk
                  clear htk
                  have hnd2 : NoDup d.ins (k + 1) := by
                    intro m' k' a b h1 h2 h3 h4 hsame
                    by_cases hm : m' = k
                    · subst hm
                      rw [HDI.out] at h3
                      cases h3
                      exact HNK.out k' b h2 h4 hsame
                    · exact HND.out m' k' a b (by omega) h2 h3 h4 hsame
                  have HND2 := Lib.hid hnd2
                  clear hnd2
                  obtain ⟨em, hem⟩ : ∃ em : Bool, em = isEmptyD di := ⟨_, rfl⟩
                  have HEMD := Lib.hid hem
                  unfold isEmptyD at hem
                  rw [← hem] at HEM
                  clear hem
                  cases eb
                  · go_wp2_with (first | (refine wpList_load_on (by kernel_rfl) 124 (.tmp 88) rfl g (off + k * 36) rfl _ _ HPT1.out Tryd.underlying124 rfl (sz_pt _ _ HOK.out.hashLen) ?_) | (go_at_call 90; refine (HEM.out _).mono ?_; rintro e W8 ⟨rfl, hk8⟩; have HK8 := Lib.hid hk8; clear hk8))
                    go_roundw
                    case rel =>
                      refine ⟨k + 1, em, by omega, by go_num, rfl, Lib.hid ((HKS.out.trans HKT.out).trans HK8.out), Lib.hid ?_, HND2⟩
                      rw [HTK.out, HEMD.out]
                      constructor
                      · intro h; exact ⟨di, by simp, h⟩
                      · rintro ⟨x, hx, he⟩
                        rcases List.mem_append.1 hx with hx | hx
                        · exact absurd (HEB.out.2 ⟨x, hx, he⟩) (by simp)
                        · simp at hx; rw [← hx]; exact he
                    case measure => simp [intOf]; omega
                  · go_wp2
                    go_roundw
                    case rel =>
                      refine ⟨k + 1, true, by omega, by go_num, rfl, Lib.hid (HKS.out.trans HKT.out), Lib.hid ?_, HND2⟩
                      rw [HTK.out]
                      obtain ⟨x, hx, he⟩ := HEB.out.1 rfl
                      exact ⟨fun _ => ⟨x, List.mem_append.2 (.inl hx), he⟩, fun _ => rfl⟩
                    case measure => simp [intOf]; omega
            · obtain rfl : i = d.ins.length := by omega
              have hnd : ¬ Dup d.ins := by
                rintro ⟨i, k, a, b, h1, h2, h3, h4⟩
                exact HND.out i k a b (List.getElem?_eq_some_iff.1 h2).1 h1 h2 h3 h4
              have HCH4 := Lib.hid (fun (r : Int) (h : (cbD d = true → (BadSize d → r = 3) ∧ (¬ BadSize d → r = 0)) ∧ (cbD d = false → (AnyEmpty d → r = 7) ∧ (¬ AnyEmpty d → r = 0))) => HCH3.out r ⟨fun h => absurd h hnd, fun _ => h⟩)
              clear HCH3 hnd
              rw [List.take_length] at HEB
              generalize wr = wB at *
              cases hcb : cbD d
              · rw [hcb] at HCB
                have hany : eb = true ↔ AnyEmpty d := HEB.out
                have hr : CHK (if eb = true then 7 else 0) := HCH4.out _ ⟨fun h => (by rw [hcb] at h; cases h), fun _ => ⟨fun h => by rw [if_pos (hany.2 h)], fun h => by rw [if_neg (fun h2 => h (hany.1 h2))]⟩⟩
                clear hany HCH4 HEB
                cases eb
                all_goals
                  go_wp2_with (go_at_call 45; refine (HCB.out _ (HK.out.trans HKS.out)).mono ?_; rintro e W8 ⟨rfl, hk8⟩; have HK8 := Lib.hid hk8; clear hk8)
                  go_ret
                  exact ⟨_, rfl, hr, HK.out.trans (HKS.out.trans HK8.out)⟩
              · rw [hcb] at HCB
                obtain ⟨g, off, sv, wv, di, rfl, hg, hdi, hrow, hrin⟩ := (HI.out.keeps HK.out).at 0 (by omega)
                rw [Nat.zero_mul, Nat.add_zero] at hrow
                have hat : ∀ W, Keeps W0 W → W.cell? ⟨g, off + 33, none⟩ = some sv := fun W hk => (at_index (hrow.keeps hk) hrin.ok.hashLen).2.1
                obtain ⟨sa, sc, rfl, hsc, hscm, -⟩ := hrin.script.any
                have HAT := Lib.hid hat
                clear hat hrow hrin
                have hbs : BadSize d ↔ (di.script.length < 2 ∨ 100 < di.script.length) := by
                  constructor
                  · rintro ⟨x, h1, h2⟩; rw [hdi] at h1; cases h1; exact h2
                  · intro h2; exact ⟨di, hdi, h2⟩
                have hr1 : (di.script.length < 2 ∨ 100 < di.script.length) → CHK 3 := fun hb => HCH4.out 3 ⟨fun _ => ⟨fun _ => rfl, fun h => absurd (hbs.2 hb) h⟩, fun h => (by rw [hcb] at h; cases h)⟩
                have hr2 : ¬ (di.script.length < 2 ∨ 100 < di.script.length) → CHK 0 := fun hb => HCH4.out 0 ⟨fun _ => ⟨fun h => absurd (hbs.1 h) hb, fun _ => rfl⟩, fun h => (by rw [hcb] at h; cases h)⟩
                have HR1 := Lib.hid hr1; have HR2 := Lib.hid hr2
                clear hr1 hr2 hbs HCH4 HEB
                go_upto_region 23 with (go_at_call 45; refine (HCB.out _ (HK.out.trans HKS.out)).mono ?_; rintro e W8 ⟨rfl, hk8⟩; have HK8 := Lib.hid hk8; clear hk8)
                clear b0 b1 b2 b3
                obtain ⟨b0, b1, b2, b3⟩ := HCE.out _ (HKS.out.trans HK8.out)
                have c33 := HAT.out _ (HKS.out.trans HK8.out)
                have hcases : (di.script.length < 2) ∨ (¬ di.script.length < 2 ∧ 100 < di.script.length) ∨ (¬ di.script.length < 2 ∧ ¬ 100 < di.script.length) := by omega
                rcases hcases with q1 | ⟨q1, q2⟩ | ⟨q1, q2⟩
                all_goals
                  go_wp2
                  go_ret
                  first
                    | exact ⟨_, rfl, HR1.out (by omega), HK.out.trans (HKS.out.trans HK8.out)⟩
                    | exact ⟨_, rfl, HR2.out (by omega), HK.out.trans (HKS.out.trans HK8.out)⟩
end Go.Proofs.YtclhjlkgmeofcaaDoor
