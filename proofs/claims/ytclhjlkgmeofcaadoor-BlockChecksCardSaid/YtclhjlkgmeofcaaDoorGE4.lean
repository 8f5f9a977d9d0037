/- The reference's Check of a block. -/
import Derived.Test.YtclhjlkgmeofcaaDoorGE2
import Derived.Test.YtclhjlkgmeofcaaDoorGE3
namespace Go.Proofs.YtclhjlkgmeofcaaDoor
set_option linter.unusedVariables false
set_option linter.unusedSimpArgs false
open Go Go.RowKit

theorem wpList_neq_row {P : Program} {ops : Array Oper} {rest : List Oper} {o : Oper} {a : Act} {w : World} {Q : Exit → Act → World → Prop} (hw : Region.wanted o (yielded ops a.tmps) = true) (t t' : TypeId) (x y : Operand) (ho : o.op = .binOp .neq t x y t') (A B : Array Value) (hx : a.eval x = .agg A) (hy : a.eval y = .agg B) (r : Bool)
    (hE : ∀ W, (Op.equalIn 10000 t (.agg A) (.agg B)).run P W = .ok r W) (hm : P.eqGuardType P.depth t = false) (h : wpList P ops Q rest (a.put o.dst (.bool (!r))) w) : wpList P ops Q (o :: rest) a w :=
  BigFrame.wpList_want hw fun _ hK => by
    have h2 : (execOp a.eval o).run P w = .ok (.value (.bool (!r))) w := by
      unfold execOp
      simp only [ho, hx, hy]
      simp only [Sem.run_bind, Sem.run_pure, run_eqGuard_agg _ _ _ _ _ _ _ hm, run_neq_struct, hE, Result.andThen_ok]
    unfold Oper.wp
    rw [h2]
    exact hK _ _ h
set_option maxRecDepth 100000 in
set_option maxHeartbeats 8000000 in
theorem rbcheck_any (ver : Int) (prev merkle : List Int) (t b n : Int) (hok : HeadOk ver prev merkle t b n) (S T R : Nat → Prop) (tv : Value) (l : List TxD) (hf : ∀ d ∈ l, Fits d) (h12 : l.length ≤ 12) (w : World) (h : RTxs S T R w tv l) :
    Calls Tryd.prog 15 #[.agg (headCells ver prev merkle t b n ++ [tv]).toArray] w fun e w' => ∃ r : Int, e = .returned (.int .i64 r) ∧ BChk (provedD b (hidD ver prev merkle t b n)) (blkB (headB ver prev merkle t b n) l).length merkle (merkD (l.map widD)) l r ∧ Keeps w w' := by
  have HT := Lib.hid h; have HF := Lib.hid hf
  obtain ⟨a, cap, rfl, hcap, hcm⟩ := h.any
  have HPV := Lib.hid (fun W => rproved_any ver prev merkle t b n hok W)
  have HEN := Lib.hid (fun W (hk : Keeps w W) => rbenc_any ver prev merkle t b n hok S T R (.slice a l.length cap) l hf h12 W (h.keeps hk))
  have HRT := Lib.hid (fun W (hk : Keeps w W) => rroot_any (headCells ver prev merkle t b n) (headCells_length hok) S T R (.slice a l.length cap) l hf W (h.keeps hk))
  have ZH : Hid ((Tryd.prog.info? 27).map (·.size) = some (headCells ver prev merkle t b n).length) := Lib.hid (sz_head ver prev merkle t b n hok.prevLen hok.merkleLen)
  have HLL := Lib.hid (headCells_length hok)
  have HMR := Lib.hid (fun W p (hr : Row W p 0 (headCells ver prev merkle t b n ++ [.slice a l.length cap])) => blk_merkle hr hok)
  have hroot := merkD_ok (l.map widD) (wids_ok l)
  have HE := Lib.hid (fun W => hash_equal W merkle (merkD (l.map widD)) hok.merkleLen hok.merkle hroot.1 hroot.2)
  have ZM := Lib.hid (sz_h merkle hok.merkleLen)
  obtain ⟨CHK, hchk⟩ : ∃ C : Int → Prop, C = BChk (provedD b (hidD ver prev merkle t b n)) (blkB (headB ver prev merkle t b n) l).length merkle (merkD (l.map widD)) l := ⟨_, rfl⟩
  have hg : ∀ r, CHK r ↔ BChk (provedD b (hidD ver prev merkle t b n)) (blkB (headB ver prev merkle t b n) l).length merkle (merkD (l.map widD)) l r := fun r => by rw [hchk]
  have HGG := Lib.hid hg
  refine calls_chk (CHK := CHK) (fun r h => (HGG.out r).1 h) ?_
  clear HGG
  have HG := Lib.hid hg
  clear h hf hok hchk hg
  generalize headCells ver prev merkle t b n = HC at *
  generalize provedD b (hidD ver prev merkle t b n) = PV at *
  generalize blkB (headB ver prev merkle t b n) l = BB at *
  generalize merkD (l.map widD) = RT at *
  go_enter Tryd.func15, Tryd.ntmps15
  go_upto_region 1 with (fail)
  refine wp_rows1 (fun W0 hk hr hs => ?_)
  obtain ⟨p, hp'⟩ : ∃ p, p = w.heap.size := ⟨_, rfl⟩
  rw [← hp'] at hr hs ⊢
  have HR := Lib.hid (show Row W0 p 0 (HC ++ [.slice a l.length cap]) by simpa using hr); have HK := Lib.hid hk
  clear hr hk hs hp'
  have HBC := Lib.hid (fun W' (hk : Keeps W0 W') => (blk_cell (HR.out.keeps hk) HLL.out).1)
  have HRH := Lib.hid (blk_head HR.out HLL.out)
  cases PV
  · go_wp2_with (first | ((with_reducible refine gate_load 27 (.tmp 8) ?_); refine wpList_load_at rfl 27 (.tmp 8) rfl p 0 rfl _ _ HRH.out Tryd.underlying27 rfl ZH.out ?_) | (go_at_call 12; refine (HPV.out _).mono ?_; rintro e W2 ⟨rfl, hk2⟩; have HK2 := Lib.hid hk2; clear hk2))
    go_ret
    exact ⟨_, rfl, (HG.out 12).2 ⟨fun _ => rfl, fun h => by cases h⟩, HK.out.trans HK2.out⟩
  · have HG1 := Lib.hid (fun (r : Int) (h : (¬ CbOk l → r = 3) ∧ (CbOk l → (1000000 < BB.length → r = 2) ∧ (¬ 1000000 < BB.length → (merkle ≠ RT → r = 5) ∧ (merkle = RT → FirstErr l r ∨ (AllOk l ∧ (SameName l → r = 18) ∧ (¬ SameName l → r = 0)))))) => (HG.out r).2 ⟨fun e => (by cases e), fun _ => h⟩)
    clear HG
    go_upto_region 3 with (first | ((with_reducible refine gate_load 27 (.tmp 8) ?_); refine wpList_load_at rfl 27 (.tmp 8) rfl p 0 rfl _ _ HRH.out Tryd.underlying27 rfl ZH.out ?_) | (go_at_call 12; refine (HPV.out _).mono ?_; rintro e W2 ⟨rfl, hk2⟩; have HK2 := Lib.hid hk2; clear hk2))
    have b0 := HBC.out _ HK2.out
    have hz0 : l.length = 0 ∨ 0 < l.length := by omega
    rcases hz0 with hz0 | hz0
    · have hcb0 : ¬ CbOk l := fun k => by have := k.1; omega
      have hz1 : ((l.length : Int) == 0) = true := beq_iff_eq.2 (by omega)
      clear hz0
      go_wp2
      go_ret
      exact ⟨_, rfl, HG1.out 3 ⟨fun _ => rfl, fun hh => absurd hh hcb0⟩, HK.out.trans HK2.out⟩
    have hz1 : ((l.length : Int) == 0) = false := beq_eq_false_iff_ne.2 (by omega)
    have HPOS := Lib.hid hz0
    clear hz0
    go_upto_region 5 with (fail)
    clear hz1
    go_wp2
    go_loopw [3] (fun c wr => ∃ i : Nat, i ≤ l.length ∧ c = .int .i64 i ∧ Hid (Keeps W0 wr) ∧ Hid (∀ j, j < i → CbAt l j)) (fun c _ => (l.length - intOf c).toNat)
    case atStart => exact ⟨0, by omega, rfl, HK2, Lib.hid (fun j hj => by omega)⟩
    case round =>
      obtain ⟨i, hi, rfl, HKR, HCB⟩ := hrel
      clear b0
      have b0 := HBC.out _ HKR.out
      by_cases hlt : i < l.length
      · obtain ⟨g, off, iv, ov, d, rfl, hg, hdi, hrow, hrtx⟩ := (HT.out.keeps (HK.out.trans HKR.out)).at hlt
        have HCO := Lib.hid (fun W (hk : Keeps wr W) => rcoinbase_any S T R d iv ov W (hrtx.keeps hk))
        have HROW := Lib.hid hrow; have HDI := Lib.hid hdi
        obtain ⟨ia, ic, rfl, -⟩ := hrtx.ins.any
        obtain ⟨oa, oc, rfl, -⟩ := hrtx.outs.any
        clear hdi hrow hrtx
        have HCX := Lib.hid (fun (e : cbD d ≠ decide (i = 0)) => cb_bad hlt HDI.out e)
        have HCY := Lib.hid (fun (e : cbD d = decide (i = 0)) => (show ∀ j, j < i + 1 → CbAt l j from fun j hj => by
          by_cases hji : j = i
          · subst hji; intro d' hd'; rw [HDI.out] at hd'; cases hd'; exact e
          · exact HCB.out j (by omega)))
        generalize cbD d = CD at *
        rcases Nat.eq_zero_or_pos i with rfl | hpos
        · have HROW0 := Lib.hid (show Row wr g off (txCells d _ _) by have := HROW.out; rwa [Nat.zero_mul, Nat.add_zero] at this)
          cases CD
          · go_wp2_with (first | ((with_reducible refine gate_load 66 (.tmp 26) ?_); refine wpList_load_at rfl 66 (.tmp 26) rfl g off rfl _ _ HROW0.out Tryd.underlying66 rfl (sz_tx _ _ _ _) ?_) | (go_at_call 45; refine (HCO.out _ (Keeps.refl _)).mono ?_; rintro e W6 ⟨rfl, hk6⟩; have HK6 := Lib.hid hk6; clear hk6))
            go_ret
            exact ⟨_, rfl, HG1.out 3 ⟨fun _ => rfl, fun hh => absurd hh (HCX.out (by simp))⟩, HK.out.trans (HKR.out.trans HK6.out)⟩
          · go_wp2_with (first | ((with_reducible refine gate_load 66 (.tmp 26) ?_); refine wpList_load_at rfl 66 (.tmp 26) rfl g off rfl _ _ HROW0.out Tryd.underlying66 rfl (sz_tx _ _ _ _) ?_) | (go_at_call 45; refine (HCO.out _ (Keeps.refl _)).mono ?_; rintro e W6 ⟨rfl, hk6⟩; have HK6 := Lib.hid hk6; clear hk6))
            go_roundw
            case rel => exact ⟨0 + 1, by omega, by go_num, Lib.hid (HKR.out.trans HK6.out), Lib.hid (HCY.out (by simp))⟩
            case measure => simp [intOf]; omega
        · have hz : ((i : Int) == 0) = false := beq_eq_false_iff_ne.2 (by omega)
          have hdz : decide (i = 0) = false := decide_eq_false (by omega)
          rw [hdz] at HCX HCY
          clear hdz
          cases CD
          · go_wp2_with (first | ((with_reducible refine gate_load 66 (.tmp 26) ?_); refine wpList_load_at rfl 66 (.tmp 26) rfl g (off + i * 4) rfl _ _ HROW.out Tryd.underlying66 rfl (sz_tx _ _ _ _) ?_) | (go_at_call 45; refine (HCO.out _ (Keeps.refl _)).mono ?_; rintro e W6 ⟨rfl, hk6⟩; have HK6 := Lib.hid hk6; clear hk6))
            go_roundw
            case rel => exact ⟨i + 1, by omega, by go_num, Lib.hid (HKR.out.trans HK6.out), Lib.hid (HCY.out (by simp))⟩
            case measure => simp [intOf]; omega
          · go_wp2_with (first | ((with_reducible refine gate_load 66 (.tmp 26) ?_); refine wpList_load_at rfl 66 (.tmp 26) rfl g (off + i * 4) rfl _ _ HROW.out Tryd.underlying66 rfl (sz_tx _ _ _ _) ?_) | (go_at_call 45; refine (HCO.out _ (Keeps.refl _)).mono ?_; rintro e W6 ⟨rfl, hk6⟩; have HK6 := Lib.hid hk6; clear hk6))
            go_ret
            exact ⟨_, rfl, HG1.out 3 ⟨fun _ => rfl, fun hh => absurd hh (HCX.out (by simp))⟩, HK.out.trans (HKR.out.trans HK6.out)⟩
      · obtain rfl : i = l.length := by omega
        have hcb1 := CbOk.all HPOS.out HCB.out
        have HG2 := Lib.hid (fun (r : Int) (h : (1000000 < BB.length → r = 2) ∧ (¬ 1000000 < BB.length → (merkle ≠ RT → r = 5) ∧ (merkle = RT → FirstErr l r ∨ (AllOk l ∧ (SameName l → r = 18) ∧ (¬ SameName l → r = 0))))) => HG1.out r ⟨fun h2 => absurd hcb1 h2, fun _ => h⟩)
        clear HG1 HCB hcb1
        have HRB := Lib.hid (HR.out.keeps HKR.out)
        generalize wr = wA at *
        by_cases hbig : 1000000 < BB.length
        · go_wp2_with (first | ((with_reducible refine gate_load 30 (.tmp 1) ?_); refine wpList_load_at rfl 30 (.tmp 1) rfl p 0 rfl _ _ HRB.out Tryd.underlying30 rfl (sz_blk _ _ HLL.out) ?_) | (go_at_call 46; refine (HEN.out _ (HK.out.trans HKR.out)).mono ?_; rintro e W6 ⟨v6, rfl, hO6⟩; obtain ⟨a6, c6, rfl⟩ := hO6.any; have HO6 := Lib.hid hO6; clear hO6))
          go_ret
          exact ⟨_, rfl, HG2.out 2 ⟨fun _ => rfl, fun hh => absurd hbig hh⟩, HK.out.trans (HKR.out.trans HO6.out.keeps)⟩
        · have HG3 := Lib.hid (fun (r : Int) (h : (merkle ≠ RT → r = 5) ∧ (merkle = RT → FirstErr l r ∨ (AllOk l ∧ (SameName l → r = 18) ∧ (¬ SameName l → r = 0)))) => HG2.out r ⟨fun h2 => absurd h2 hbig, fun _ => h⟩)
          clear HG2
          go_upto_region 12 with (first | ((with_reducible refine gate_load 30 (.tmp 1) ?_); refine wpList_load_at rfl 30 (.tmp 1) rfl p 0 rfl _ _ HRB.out Tryd.underlying30 rfl (sz_blk _ _ HLL.out) ?_) | (go_at_call 46; refine (HEN.out _ (HK.out.trans HKR.out)).mono ?_; rintro e W6 ⟨v6, rfl, hO6⟩; obtain ⟨a6, c6, rfl⟩ := hO6.any; have HO6 := Lib.hid hO6; clear hO6))
          have hkz : Keeps W0 W6 := HKR.out.trans HO6.out.keeps
          have HKZ := Lib.hid hkz
          have HMK := Lib.hid (HMR.out _ _ (HR.out.keeps hkz))
          have HRY := Lib.hid (HR.out.keeps hkz)
          clear hkz HRB hbig HO6 HEN HPV HMR
          refine wp_region_head (S := fun W => Hid ((fun W => Keeps W6 W) W)) 5 (by kernel_rfl) (by kernel_rfl) ?_ (fun hHeld => ?_)
          focus exact Lib.hid (keeps_drew (Keeps.refl _))
          refine wpAnyHL_take (i := 0) (oi := ?_) (v := ?_) ?_ ?_ ?_ ?_ ?_ ?_ ?_ ?_ ?_ (Or.inl ⟨?_, ?_⟩) ?_ ?_
          rotate_left 2
          focus (simp only [List.getElem?_toArray, List.getElem?_cons_succ, List.getElem?_cons_zero]; exact rfl)
          focus kernel_rfl
          focus kernel_rfl
          focus kernel_rfl
          focus kernel_rfl
          focus kernel_rfl
          focus kernel_rfl
          focus kernel_rfl
          focus (exact fun _ _ _ h => h)
          focus rfl
          focus ((intro wSw hSw; (have hSw := hSw.out); (try dsimp only at hSw); go_simp) <;> with_reducible rfl)
          focus assumption
          try simp only [Act.put, List.setIfInBounds_toArray, List.set_cons_zero, List.set_cons_succ]
          refine wpAnyHL_take (i := 1) (oi := ?_) (v := ?_) ?_ ?_ ?_ ?_ ?_ ?_ ?_ ?_ ?_ (Or.inl ⟨?_, ?_⟩) ?_ ?_
          rotate_left 2
          focus (simp only [List.getElem?_toArray, List.getElem?_cons_succ, List.getElem?_cons_zero]; exact rfl)
          focus kernel_rfl
          focus kernel_rfl
          focus kernel_rfl
          focus kernel_rfl
          focus kernel_rfl
          focus kernel_rfl
          focus kernel_rfl
          focus (exact fun _ _ _ h => h)
          focus rfl
          focus ((intro wSw hSw; (have hSw := hSw.out); (try dsimp only at hSw); go_simp) <;> with_reducible rfl)
          focus assumption
          try simp only [Act.put, List.setIfInBounds_toArray, List.set_cons_zero, List.set_cons_succ]
          refine wpAnyHL_take (i := 2) (oi := ?_) (v := ?_) ?_ ?_ ?_ ?_ ?_ ?_ ?_ ?_ ?_ (Or.inl ⟨?_, ?_⟩) ?_ ?_
          rotate_left 2
          focus (simp only [List.getElem?_toArray, List.getElem?_cons_succ, List.getElem?_cons_zero]; exact rfl)
          focus kernel_rfl
          focus kernel_rfl
          focus kernel_rfl
          focus kernel_rfl
          focus kernel_rfl
          focus kernel_rfl
          focus kernel_rfl
          focus (exact fun _ _ _ h => h)
          focus rfl
          focus (intro wSw hSw; (have hSw := hSw.out); (refine run_load_row 24 (.tmp 37) ?_ p 33 ?_ _ _ (HMK.out.keeps hSw) Tryd.underlying24 rfl ZM.out) <;> rfl)
          focus assumption
          try simp only [Act.put, List.setIfInBounds_toArray, List.set_cons_zero, List.set_cons_succ]
          refine wpAnyHL_take (i := 3) (oi := ?_) (v := ?_) ?_ ?_ ?_ ?_ ?_ ?_ ?_ ?_ ?_ (Or.inl ⟨?_, ?_⟩) ?_ ?_
          rotate_left 2
          focus (simp only [List.getElem?_toArray, List.getElem?_cons_succ, List.getElem?_cons_zero]; exact rfl)
          focus kernel_rfl
          focus kernel_rfl
          focus kernel_rfl
          focus kernel_rfl
          focus kernel_rfl
          focus kernel_rfl
          focus kernel_rfl
          focus (exact fun _ _ _ h => h)
          focus rfl
          focus (intro wSw hSw; (have hSw := hSw.out); (refine run_load_row 30 (.tmp 1) ?_ p 0 ?_ _ _ (HRY.out.keeps hSw) Tryd.underlying30 rfl (sz_blk _ _ HLL.out)) <;> rfl)
          focus assumption
          try simp only [Act.put, List.setIfInBounds_toArray, List.set_cons_zero, List.set_cons_succ]
          refine wpAnyHL_one (i := 4) (o := ?_) (by kernel_rfl) (by kernel_rfl) ?_ ?_
          rotate_left 1
          focus (simp only [List.getElem?_toArray, List.getElem?_cons_succ, List.getElem?_cons_zero]; exact rfl)
          go_wp2_with (go_at_call 11; refine (HRT.out _ (HK.out.trans (HKZ.out.trans hHeld.out))).mono ?_; rintro e W7 ⟨rfl, hk7⟩; have HK7 := Lib.hid hk7; clear hk7)
          try dsimp only [StepQ]
          refine ⟨?_, fun hHeld => ?_⟩
          focus (exact Lib.hid (hHeld.out.trans HK7.out))
          try simp only [Act.put, List.setIfInBounds_toArray, List.set_cons_zero, List.set_cons_succ]
          refine wpAnyHL_done (by kernel_rfl) ?_
          try simp only [List.drop_succ_cons, List.drop_zero]
          refine wpList_neq_row (by kernel_rfl) 24 24 (.tmp 38) (.tmp 40) rfl _ _ rfl rfl (decide (merkle = RT)) HE.out (by kernel_rfl) ?_
          simp only [Act.put, List.setIfInBounds_toArray, List.set_cons_zero, List.set_cons_succ]
          have HKY := Lib.hid (HKZ.out.trans hHeld.out)
          clear hHeld HKZ HMK HRY HRT HE HK7
          by_cases hmk : merkle = RT
          rotate_left
          · rw [decide_eq_false hmk]
            go_wp2
            go_ret
            exact ⟨_, rfl, HG3.out 5 ⟨fun _ => rfl, fun hh => absurd hh hmk⟩, HK.out.trans HKY.out⟩
          · rw [decide_eq_true hmk]
            have HG4 := Lib.hid (fun (r : Int) (h : FirstErr l r ∨ (AllOk l ∧ (SameName l → r = 18) ∧ (¬ SameName l → r = 0))) => HG3.out r ⟨fun h2 => absurd hmk h2, fun _ => h⟩)
            clear HG3 hmk
            clear b0
            generalize W7 = WB at *
            go_upto_region 14 with (fail)
            go_wp2
            go_loopw [4] (fun c wr => ∃ i : Nat, i ≤ l.length ∧ c = .int .i64 i ∧ Hid (Keeps W0 wr) ∧ Hid (∀ j, j < i → ∀ d, l[j]? = some d → Chk d 0)) (fun c _ => (l.length - intOf c).toNat)
            case atStart => exact ⟨0, by omega, rfl, HKY, Lib.hid (fun j hj => by omega)⟩
            case round =>
              obtain ⟨i, hi, rfl, HKR2, HOK⟩ := hrel
              have b0 := HBC.out _ HKR2.out
              by_cases hlt : i < l.length
              · obtain ⟨g, off, iv, ov, d, rfl, hg, hdi, hrow, hrtx⟩ := (HT.out.keeps (HK.out.trans HKR2.out)).at hlt
                have hfd := HF.out d (List.mem_of_getElem? hdi)
                have HCO := Lib.hid (fun W (hk : Keeps wr W) => rcheck_any S T R d iv ov hfd W (hrtx.keeps hk))
                have HROW := Lib.hid hrow; have HDI := Lib.hid hdi
                obtain ⟨ia, ic, rfl, -⟩ := hrtx.ins.any
                obtain ⟨oa, oc, rfl, -⟩ := hrtx.outs.any
                clear hdi hrow hrtx hfd
                go_upto_region 18 with (first | ((with_reducible refine gate_load 66 (.tmp 52) ?_); refine wpList_load_at rfl 66 (.tmp 52) rfl g (off + i * 4) rfl _ _ HROW.out Tryd.underlying66 rfl (sz_tx _ _ _ _) ?_) | (go_at_call 47; refine (HCO.out _ (Keeps.refl _)).mono ?_; rintro e W6 ⟨r, rfl, hc6, hk6⟩; have HK6 := Lib.hid hk6; have HC6 := Lib.hid hc6; clear hk6 hc6))
                by_cases hr0 : r = 0
                · subst hr0
                  go_wp2
                  go_roundw
                  case rel =>
                    refine ⟨_, _, _, _, _, _, _, _, _, _, _, _, _, _, _, _, _, _, _, ⟨i + 1, by omega, by go_num, Lib.hid (HKR2.out.trans HK6.out), Lib.hid (fun j hj d' hd' => ?_)⟩, rfl⟩
                    by_cases hji : j = i
                    · subst hji; rw [HDI.out] at hd'; cases hd'; exact HC6.out
                    · exact HOK.out j (by omega) d' hd'
                  case measure => simp [intOf]; omega
                · have hz : (r == 0) = false := beq_eq_false_iff_ne.2 hr0
                  have hfe : FirstErr l r := ⟨hr0, i, d, HDI.out, HC6.out, HOK.out⟩
                  have hz2 : (r != 0) = true := by simp [bne, hz]
                  go_wp2
                  go_ret
                  exact ⟨_, rfl, HG4.out r (.inl hfe), HK.out.trans (HKR2.out.trans HK6.out)⟩
              · obtain rfl : i = l.length := by omega
                have hall := all_of HOK.out
                have HG5 := Lib.hid (fun (r : Int) (h : (SameName l → r = 18) ∧ (¬ SameName l → r = 0)) => HG4.out r (.inr ⟨hall, h⟩))
                clear HG4 hall HOK hlt hi
                generalize wr = wC at *
                go_upto_region 20 with (fail)
                clear b0
                go_wp2
                go_loopw [6] (fun c wr => ∃ i : Nat, i ≤ l.length ∧ c = .int .i64 i ∧ Hid (Keeps W0 wr) ∧ Hid (NoSame l i)) (fun c _ => (l.length - intOf c).toNat)
                case atStart => exact ⟨0, by omega, rfl, HKR2, Lib.hid (fun m k a b hm => by omega)⟩
                case round =>
                  obtain ⟨i, hi, rfl, HKI, HNS⟩ := hrel
                  have b0 := HBC.out _ HKI.out
                  by_cases hlt : i < l.length
                  · generalize wr = wI at *
                    go_upto_region 24 with (fail)
                    go_loopw [7] (fun c wr => ∃ k : Nat, k ≤ i ∧ c = .int .i64 k ∧ Hid (Keeps W0 wr) ∧ Hid (∀ (m : Nat) (a b : TxD), m < k → l[i]? = some a → l[m]? = some b → nameD a ≠ nameD b)) (fun c _ => (i - intOf c).toNat)
                    case atStart => exact ⟨0, by omega, rfl, HKI, Lib.hid (fun m a b hm => by omega)⟩
                    case round =>
                      obtain ⟨k, hk, rfl, HKK, HNK⟩ := hrel
                      clear b0
                      by_cases hlt2 : k < i
                      · obtain ⟨g, off, iv, ov, d, rfl, hg, hdi, hrow, hrtx⟩ := (HT.out.keeps (HK.out.trans HKK.out)).at hlt
                        obtain ⟨g2, off2, iv2, ov2, d2, e2, hg2, hdi2, hrow2, hrtx2⟩ := (HT.out.keeps (HK.out.trans HKK.out)).at (show k < l.length by omega)
                        obtain ⟨rfl, rfl⟩ : g = g2 ∧ off = off2 := by have := Option.some.inj e2; simp at this; exact this
                        have hfd := HF.out d (List.mem_of_getElem? hdi)
                        have hfd2 := HF.out d2 (List.mem_of_getElem? hdi2)
                        have hidn : idD d false = nameD d := rfl
                        have hidn2 : idD d2 false = nameD d2 := rfl
                        have HCO := Lib.hid (fun W (hk : Keeps wr W) => rid_any S T R d iv ov hfd W (hrtx.keeps hk))
                        have HCO2 := Lib.hid (fun W (hk : Keeps wr W) => rid_any S T R d2 iv2 ov2 hfd2 W (hrtx2.keeps hk))
                        rw [hidn] at HCO
                        rw [hidn2] at HCO2
                        have HEQ := Lib.hid (fun W => equal_bytes W 23 32 Tryd.underlying23 (nameD d) (nameD d2) (nameD_bytes d) (nameD_bytes d2) (nameD_len d) (nameD_len d2))
                        have HROW := Lib.hid hrow; have HROW2 := Lib.hid hrow2; have HDI := Lib.hid hdi; have HDI2 := Lib.hid hdi2
                        obtain ⟨ia, ic, rfl, -⟩ := hrtx.ins.any
                        obtain ⟨oa, oc, rfl, -⟩ := hrtx.outs.any
                        obtain ⟨ia2, ic2, rfl, -⟩ := hrtx2.ins.any
                        obtain ⟨oa2, oc2, rfl, -⟩ := hrtx2.outs.any
                        have HSM := Lib.hid (fun (e : nameD d = nameD d2) => (show SameName l from ⟨i, k, d, d2, hlt2, hdi, hdi2, e⟩))
                        have HNX := Lib.hid (fun (e : nameD d ≠ nameD d2) => (show ∀ (m : Nat) (a b : TxD), m < k + 1 → l[i]? = some a → l[m]? = some b → nameD a ≠ nameD b from fun m a b hm ha hb => by
                          by_cases hmk : m = k
                          · subst hmk
                            rw [hdi] at ha; rw [hdi2] at hb
                            cases ha; cases hb
                            exact e
                          · exact HNK.out m a b (by omega) ha hb))
                        clear hdi hdi2 hrow hrow2 hrtx hrtx2 hfd hfd2 hidn hidn2 e2
                        generalize nameD d = N1 at *
                        generalize nameD d2 = N2 at *
                        have HCEL := Lib.hid (fun W' (hk : Keeps wr W') => HBC.out W' (HKK.out.trans hk))
                        have hkl : k < l.length := by omega
                        go_upto_region 26 with (fail)
                        refine wp_region_head (S := fun W => Hid ((fun W' => Keeps wr W' ∧ W'.cell? ⟨p, 68, none⟩ = some (.slice (some ⟨g, off, none⟩) l.length cap)) W)) 12 (by kernel_rfl) (by kernel_rfl) ?_ (fun hHeld => ?_)
                        focus exact Lib.hid ⟨keeps_drew (Keeps.refl wr), HCEL.out _ (keeps_drew (Keeps.refl wr))⟩
                        refine wpAnyHL_take (i := 0) (oi := ?_) (v := ?_) ?_ ?_ ?_ ?_ ?_ ?_ ?_ ?_ ?_ (Or.inl ⟨?_, ?_⟩) ?_ ?_
                        rotate_left 2
                        focus (simp only [List.getElem?_toArray, List.getElem?_cons_succ, List.getElem?_cons_zero]; exact rfl)
                        focus kernel_rfl
                        focus kernel_rfl
                        focus kernel_rfl
                        focus kernel_rfl
                        focus kernel_rfl
                        focus kernel_rfl
                        focus kernel_rfl
                        focus (exact fun _ _ _ h => h)
                        focus rfl
                        focus ((intro wSw hSw; (have hSw := hSw.out); (try dsimp only at hSw); go_simp) <;> with_reducible rfl)
                        focus assumption
                        try simp only [Act.put, List.setIfInBounds_toArray, List.set_cons_zero, List.set_cons_succ]
                        refine wpAnyHL_take (i := 1) (oi := ?_) (v := ?_) ?_ ?_ ?_ ?_ ?_ ?_ ?_ ?_ ?_ (Or.inl ⟨?_, ?_⟩) ?_ ?_
                        rotate_left 2
                        focus (simp only [List.getElem?_toArray, List.getElem?_cons_succ, List.getElem?_cons_zero]; exact rfl)
                        focus kernel_rfl
                        focus kernel_rfl
                        focus kernel_rfl
                        focus kernel_rfl
                        focus kernel_rfl
                        focus kernel_rfl
                        focus kernel_rfl
                        focus (exact fun _ _ _ h => h)
                        focus rfl
                        focus ((intro wSw hSw; (have hSw := hSw.out); (try dsimp only at hSw); go_simp) <;> with_reducible rfl)
                        focus assumption
                        try simp only [Act.put, List.setIfInBounds_toArray, List.set_cons_zero, List.set_cons_succ]
                        refine wpAnyHL_take (i := 2) (oi := ?_) (v := ?_) ?_ ?_ ?_ ?_ ?_ ?_ ?_ ?_ ?_ (Or.inl ⟨?_, ?_⟩) ?_ ?_
                        rotate_left 2
                        focus (simp only [List.getElem?_toArray, List.getElem?_cons_succ, List.getElem?_cons_zero]; exact rfl)
                        focus kernel_rfl
                        focus kernel_rfl
                        focus kernel_rfl
                        focus kernel_rfl
                        focus kernel_rfl
                        focus kernel_rfl
                        focus kernel_rfl
                        focus (exact fun _ _ _ h => h)
                        focus rfl
                        focus ((intro wSw hSw; (have hSw := hSw.out); (try dsimp only at hSw); go_simp) <;> with_reducible rfl)
                        focus assumption
                        try simp only [Act.put, List.setIfInBounds_toArray, List.set_cons_zero, List.set_cons_succ]
                        refine wpAnyHL_take (i := 3) (oi := ?_) (v := ?_) ?_ ?_ ?_ ?_ ?_ ?_ ?_ ?_ ?_ (Or.inl ⟨?_, ?_⟩) ?_ ?_
                        rotate_left 2
                        focus (simp only [List.getElem?_toArray, List.getElem?_cons_succ, List.getElem?_cons_zero]; exact rfl)
                        focus kernel_rfl
                        focus kernel_rfl
                        focus kernel_rfl
                        focus kernel_rfl
                        focus kernel_rfl
                        focus kernel_rfl
                        focus kernel_rfl
                        focus (exact fun _ _ _ h => h)
                        focus rfl
                        focus ((intro wSw hSw; (have hSw := hSw.out); (try dsimp only at hSw); go_simp) <;> with_reducible rfl)
                        focus assumption
                        try simp only [Act.put, List.setIfInBounds_toArray, List.set_cons_zero, List.set_cons_succ]
                        refine wpAnyHL_take (i := 4) (oi := ?_) (v := ?_) ?_ ?_ ?_ ?_ ?_ ?_ ?_ ?_ ?_ (Or.inl ⟨?_, ?_⟩) ?_ ?_
                        rotate_left 2
                        focus (simp only [List.getElem?_toArray, List.getElem?_cons_succ, List.getElem?_cons_zero]; exact rfl)
                        focus kernel_rfl
                        focus kernel_rfl
                        focus kernel_rfl
                        focus kernel_rfl
                        focus kernel_rfl
                        focus kernel_rfl
                        focus kernel_rfl
                        focus (exact fun _ _ _ h => h)
                        focus rfl
                        focus (intro wSw hSw; (have hSw := hSw.out); (refine run_load_row 66 (.tmp 73) ?_ g (off + i * 4) ?_ _ _ (HROW.out.keeps hSw.1) Tryd.underlying66 rfl (sz_tx _ _ _ _)) <;> rfl)
                        focus assumption
                        try simp only [Act.put, List.setIfInBounds_toArray, List.set_cons_zero, List.set_cons_succ]
                        refine wpAnyHL_take (i := 6) (oi := ?_) (v := ?_) ?_ ?_ ?_ ?_ ?_ ?_ ?_ ?_ ?_ (Or.inl ⟨?_, ?_⟩) ?_ ?_
                        rotate_left 2
                        focus (simp only [List.getElem?_toArray, List.getElem?_cons_succ, List.getElem?_cons_zero]; exact rfl)
                        focus kernel_rfl
                        focus kernel_rfl
                        focus kernel_rfl
                        focus kernel_rfl
                        focus kernel_rfl
                        focus kernel_rfl
                        focus kernel_rfl
                        focus (exact fun _ _ _ h => h)
                        focus rfl
                        focus ((intro wSw hSw; (have hSw := hSw.out); (try dsimp only at hSw); go_simp) <;> with_reducible rfl)
                        focus assumption
                        try simp only [Act.put, List.setIfInBounds_toArray, List.set_cons_zero, List.set_cons_succ]
                        refine wpAnyHL_take (i := 7) (oi := ?_) (v := ?_) ?_ ?_ ?_ ?_ ?_ ?_ ?_ ?_ ?_ (Or.inl ⟨?_, ?_⟩) ?_ ?_
                        rotate_left 2
                        focus (simp only [List.getElem?_toArray, List.getElem?_cons_succ, List.getElem?_cons_zero]; exact rfl)
                        focus kernel_rfl
                        focus kernel_rfl
                        focus kernel_rfl
                        focus kernel_rfl
                        focus kernel_rfl
                        focus kernel_rfl
                        focus kernel_rfl
                        focus (exact fun _ _ _ h => h)
                        focus rfl
                        focus ((intro wSw hSw; (have hSw := hSw.out); (try dsimp only at hSw); go_simp) <;> with_reducible rfl)
                        focus assumption
                        try simp only [Act.put, List.setIfInBounds_toArray, List.set_cons_zero, List.set_cons_succ]
                        refine wpAnyHL_take (i := 8) (oi := ?_) (v := ?_) ?_ ?_ ?_ ?_ ?_ ?_ ?_ ?_ ?_ (Or.inl ⟨?_, ?_⟩) ?_ ?_
                        rotate_left 2
                        focus (simp only [List.getElem?_toArray, List.getElem?_cons_succ, List.getElem?_cons_zero]; exact rfl)
                        focus kernel_rfl
                        focus kernel_rfl
                        focus kernel_rfl
                        focus kernel_rfl
                        focus kernel_rfl
                        focus kernel_rfl
                        focus kernel_rfl
                        focus (exact fun _ _ _ h => h)
                        focus rfl
                        focus ((intro wSw hSw; (have hSw := hSw.out); (try dsimp only at hSw); go_simp) <;> with_reducible rfl)
                        focus assumption
                        try simp only [Act.put, List.setIfInBounds_toArray, List.set_cons_zero, List.set_cons_succ]
                        refine wpAnyHL_take (i := 9) (oi := ?_) (v := ?_) ?_ ?_ ?_ ?_ ?_ ?_ ?_ ?_ ?_ (Or.inl ⟨?_, ?_⟩) ?_ ?_
                        rotate_left 2
                        focus (simp only [List.getElem?_toArray, List.getElem?_cons_succ, List.getElem?_cons_zero]; exact rfl)
                        focus kernel_rfl
                        focus kernel_rfl
                        focus kernel_rfl
                        focus kernel_rfl
                        focus kernel_rfl
                        focus kernel_rfl
                        focus kernel_rfl
                        focus (exact fun _ _ _ h => h)
                        focus rfl
                        focus ((intro wSw hSw; (have hSw := hSw.out); (try dsimp only at hSw); go_simp) <;> with_reducible rfl)
                        focus assumption
                        try simp only [Act.put, List.setIfInBounds_toArray, List.set_cons_zero, List.set_cons_succ]
                        refine wpAnyHL_take (i := 10) (oi := ?_) (v := ?_) ?_ ?_ ?_ ?_ ?_ ?_ ?_ ?_ ?_ (Or.inl ⟨?_, ?_⟩) ?_ ?_
                        rotate_left 2
                        focus (simp only [List.getElem?_toArray, List.getElem?_cons_succ, List.getElem?_cons_zero]; exact rfl)
                        focus kernel_rfl
                        focus kernel_rfl
                        focus kernel_rfl
                        focus kernel_rfl
                        focus kernel_rfl
                        focus kernel_rfl
                        focus kernel_rfl
                        focus (exact fun _ _ _ h => h)
                        focus rfl
                        focus (intro wSw hSw; (have hSw := hSw.out); (refine run_load_row 66 (.tmp 79) ?_ g (off + k * 4) ?_ _ _ (HROW2.out.keeps hSw.1) Tryd.underlying66 rfl (sz_tx _ _ _ _)) <;> rfl)
                        focus assumption
                        try simp only [Act.put, List.setIfInBounds_toArray, List.set_cons_zero, List.set_cons_succ]
                        refine wpAnyHL_one (i := 5) (o := ?_) (by kernel_rfl) (by kernel_rfl) ?_ ?_
                        rotate_left 1
                        focus (simp only [List.getElem?_toArray, List.getElem?_cons_succ, List.getElem?_cons_zero]; exact rfl)
                        go_wp2_with (go_at_call 48; refine (HCO.out _ hHeld.out.1).mono ?_; rintro e W7 ⟨rfl, hk7⟩; have HK7 := Lib.hid hk7; clear hk7)
                        try dsimp only [StepQ]
                        refine ⟨?_, fun hHeld => ?_⟩
                        focus (exact Lib.hid (⟨hHeld.out.1.trans HK7.out, HCEL.out _ (hHeld.out.1.trans HK7.out)⟩))
                        try simp only [Act.put, List.setIfInBounds_toArray, List.set_cons_zero, List.set_cons_succ]
                        refine wpAnyHL_one (i := 11) (o := ?_) (by kernel_rfl) (by kernel_rfl) ?_ ?_
                        rotate_left 1
                        focus (simp only [List.getElem?_toArray, List.getElem?_cons_succ, List.getElem?_cons_zero]; exact rfl)
                        go_wp2_with (go_at_call 48; refine (HCO2.out _ hHeld.out.1).mono ?_; rintro e W8 ⟨rfl, hk8⟩; have HK8 := Lib.hid hk8; clear hk8)
                        try dsimp only [StepQ]
                        refine ⟨?_, fun hHeld => ?_⟩
                        focus (exact Lib.hid (⟨hHeld.out.1.trans HK8.out, HCEL.out _ (hHeld.out.1.trans HK8.out)⟩))
                        try simp only [Act.put, List.setIfInBounds_toArray, List.set_cons_zero, List.set_cons_succ]
                        refine wpAnyHL_done (by kernel_rfl) ?_
                        try simp only [List.drop_succ_cons, List.drop_zero]
                        refine wpList_eql_at (by kernel_rfl) 23 23 (.tmp 75) (.tmp 81) rfl _ _ rfl rfl (decide (N1 = N2)) HEQ.out (by kernel_rfl) ?_
                        simp only [Act.put, List.setIfInBounds_toArray, List.set_cons_zero, List.set_cons_succ]
                        have HKK2 := Lib.hid (HKK.out.trans hHeld.out.1)
                        clear hHeld
                        by_cases hne : N1 = N2
                        · rw [decide_eq_true hne]
                          have hsm := HSM.out hne
                          go_wp2
                          go_ret
                          exact ⟨_, rfl, HG5.out 18 ⟨fun _ => rfl, fun hh => absurd hsm hh⟩, HK.out.trans HKK2.out⟩
                        · rw [decide_eq_false hne]
                          have HNY := Lib.hid (HNX.out hne)
                          clear hne
                          go_wp2
                          go_roundw
                          case rel => exact ⟨_, _, _, _, _, _, _, _, _, _, _, _, _, _, _, _, _, _, _, _, ⟨k + 1, by omega, by go_num, HKK2, HNY⟩, rfl⟩
                          case measure => simp [intOf]; omega
                      · obtain rfl : k = i := by omega
                        have hns2 : NoSame l (k + 1) := fun m k' a b h1 h2 h3 h4 => by
                          by_cases hmi : m = k
                          · subst hmi; exact HNK.out k' a b h2 h3 h4
                          · exact HNS.out m k' a b (by omega) h2 h3 h4
                        have HNS2 := Lib.hid hns2
                        clear hns2
                        go_wp2
                        go_roundw
                        case rel => exact ⟨k + 1, by omega, by go_num, HKK, HNS2⟩
                        case measure => simp [intOf]; omega
                  · obtain rfl : i = l.length := by omega
                    have hns := HNS.out.all
                    go_wp2
                    go_ret
                    exact ⟨_, rfl, HG5.out 0 ⟨fun hh => absurd hh hns, fun _ => rfl⟩, HK.out.trans HKI.out⟩
end Go.Proofs.YtclhjlkgmeofcaaDoor
