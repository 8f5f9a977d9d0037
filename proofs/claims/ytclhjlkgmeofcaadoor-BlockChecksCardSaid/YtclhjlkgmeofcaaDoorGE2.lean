/- block.Check. -/
import Derived.Test.YtclhjlkgmeofcaaDoorGD7
import Derived.Test.YtclhjlkgmeofcaaDoorGE1
namespace Go.Proofs.YtclhjlkgmeofcaaDoor
set_option linter.unusedVariables false
set_option linter.unusedSimpArgs false
open Go Go.RowKit

theorem blk_merkle {w : World} {p : Nat} {ver : Int} {prev merkle : List Int} {t b n : Int} {tv : Value} (h : Row w p 0 (headCells ver prev merkle t b n ++ [tv])) (hok : HeadOk ver prev merkle t b n) : Row w p 33 (merkle.map (Value.int .u8)) := by
  have h2 := (blk_head h (headCells_length hok)).drop 33
  have h3 := h2.take 32
  rwa [headCells_merkle _ _ _ _ _ _ hok.prevLen hok.merkleLen, Nat.zero_add] at h3
theorem calls_chk {P : Program} {f : FuncId} {args : Array Value} {w : World} {CHK B : Int → Prop} (hb : ∀ r, CHK r → B r) (key : Calls P f args w fun e w' => ∃ r : Int, e = .returned (.int .i64 r) ∧ CHK r ∧ Keeps w w') :
    Calls P f args w fun e w' => ∃ r : Int, e = .returned (.int .i64 r) ∧ B r ∧ Keeps w w' := key.mono (fun e w' ⟨r, h1, h2, h3⟩ => ⟨r, h1, hb r h2, h3⟩)
set_option maxRecDepth 100000 in
set_option maxHeartbeats 8000000 in
theorem bcheck_any (ver : Int) (prev merkle : List Int) (t b n : Int) (hok : HeadOk ver prev merkle t b n) (S T R : Nat → Prop) (tv : Value) (l : List TxD) (hf : ∀ d ∈ l, Fits d) (h12 : l.length ≤ 12) (w : World) (h : RTxs S T R w tv l) (hS : ∀ g, S g → g < w.heap.size) :
    Calls Tryd.prog 14 #[.agg (headCells ver prev merkle t b n ++ [tv]).toArray] w fun e w' => ∃ r : Int, e = .returned (.int .i64 r) ∧ BChk (provedD b (hidD ver prev merkle t b n)) (blkB (headB ver prev merkle t b n) l).length merkle (merkD (l.map widD)) l r ∧ Keeps w w' := by
  have HT := Lib.hid h; have HF := Lib.hid hf; have HS := Lib.hid hS
  obtain ⟨a, cap, rfl, hcap, hcm⟩ := h.any
  have HPV := Lib.hid (fun W => proved_any ver prev merkle t b n hok W)
  have HEN := Lib.hid (fun W (hk : Keeps w W) => benc_any ver prev merkle t b n hok S T R (.slice a l.length cap) l hf h12 W (h.keeps hk) (fun g hg => Nat.lt_of_lt_of_le (hS g hg) hk.size))
  have HRT := Lib.hid (fun W (hk : Keeps w W) => root_any merkle_any (headCells ver prev merkle t b n) (headCells_length hok) S T R (.slice a l.length cap) l hf W (h.keeps hk) (fun g hg => Nat.lt_of_lt_of_le (hS g hg) hk.size))
  have ZH : Hid ((Tryd.prog.info? 27).map (·.size) = some (headCells ver prev merkle t b n).length) := Lib.hid (sz_head ver prev merkle t b n hok.prevLen hok.merkleLen)
  have HLL := Lib.hid (headCells_length hok)
  have HMR := Lib.hid (fun W p (hr : Row W p 0 (headCells ver prev merkle t b n ++ [.slice a l.length cap])) => blk_merkle hr hok)
  have hroot := merkD_ok (l.map widD) (wids_ok l)
  have HE := Lib.hid (fun W => hash_equal W merkle (merkD (l.map widD)) hok.merkleLen hok.merkle hroot.1 hroot.2)
  have ZM := Lib.hid (sz_h merkle hok.merkleLen)
  obtain ⟨CHK, hchk⟩ : ∃ C : Int → Prop, C = BChk (provedD b (hidD ver prev merkle t b n)) (blkB (headB ver prev merkle t b n) l).length merkle (merkD (l.map widD)) l := ⟨_, rfl⟩
  have HCHK := Lib.hid hchk
  have hg : ∀ r, CHK r ↔ BChk (provedD b (hidD ver prev merkle t b n)) (blkB (headB ver prev merkle t b n) l).length merkle (merkD (l.map widD)) l r := fun r => by rw [hchk]
  have HGG := Lib.hid hg
  refine calls_chk (CHK := CHK) (fun r h => (HGG.out r).1 h) ?_
  clear HGG
  have HG := Lib.hid hg
  clear h hf hS hok hchk HCHK hg
  generalize headCells ver prev merkle t b n = HC at *
  generalize provedD b (hidD ver prev merkle t b n) = PV at *
  generalize blkB (headB ver prev merkle t b n) l = BB at *
  generalize merkD (l.map widD) = RT at *
  go_enter Tryd.func14, Tryd.ntmps14
  go_upto_region 1 with (fail)
  refine wp_rows1 (fun W0 hk hr hs => ?_)
  obtain ⟨p, hp'⟩ : ∃ p, p = w.heap.size := ⟨_, rfl⟩
  rw [← hp'] at hr hs ⊢
  have HR := Lib.hid (show Row W0 p 0 (HC ++ [.slice a l.length cap]) by simpa using hr); have HK := Lib.hid hk
  clear hr hk hs hp'
  have HBC := Lib.hid (fun W' (hk : Keeps W0 W') => (blk_cell (HR.out.keeps hk) HLL.out).1)
  have HRH := Lib.hid (blk_head HR.out HLL.out)
  cases PV
  · go_wp2_with (first | ((with_reducible refine gate_load 27 (.tmp 12) ?_); refine wpList_load_at rfl 27 (.tmp 12) rfl p 0 rfl _ _ HRH.out Tryd.underlying27 rfl ZH.out ?_) | (go_at_call 13; refine (HPV.out _).mono ?_; rintro e W2 ⟨rfl, hk2⟩; have HK2 := Lib.hid hk2; clear hk2))
    go_ret
    exact ⟨_, rfl, (HG.out 12).2 ⟨fun _ => rfl, fun h => by cases h⟩, HK.out.trans HK2.out⟩
  · have HG1 := Lib.hid (fun (r : Int) (h : (¬ CbOk l → r = 3) ∧ (CbOk l → (1000000 < BB.length → r = 2) ∧ (¬ 1000000 < BB.length → (merkle ≠ RT → r = 5) ∧ (merkle = RT → FirstErr l r ∨ (AllOk l ∧ (SameName l → r = 18) ∧ (¬ SameName l → r = 0)))))) => (HG.out r).2 ⟨fun e => (by cases e), fun _ => h⟩)
    clear HG
    go_upto_region 3 with (first | ((with_reducible refine gate_load 27 (.tmp 12) ?_); refine wpList_load_at rfl 27 (.tmp 12) rfl p 0 rfl _ _ HRH.out Tryd.underlying27 rfl ZH.out ?_) | (go_at_call 13; refine (HPV.out _).mono ?_; rintro e W2 ⟨rfl, hk2⟩; have HK2 := Lib.hid hk2; clear hk2))
    have b0 := HBC.out _ HK2.out
    go_upto_region 4 with (fail)
    go_loopw [19] (fun c wr => ∃ i : Nat, i ≤ l.length ∧ c = .int .i64 i ∧ Hid (Keeps W0 wr) ∧ Hid (∀ j, j < i → CbAt l j)) (fun c _ => (l.length - intOf c).toNat)
    case atStart => exact ⟨0, by omega, rfl, HK2, Lib.hid (fun j hj => by omega)⟩
    case round =>
      obtain ⟨i, hi, rfl, HKR, HCB⟩ := hrel
      clear b0
      by_cases hlt : i < l.length
      · obtain ⟨g, off, iv, ov, d, rfl, hg, hdi, hrow, hrtx⟩ := (HT.out.keeps (HK.out.trans HKR.out)).at hlt
        have HCO := Lib.hid (fun W (hk : Keeps wr W) => coinbase_any S T R d iv ov W (hrtx.keeps hk))
        have HROW := Lib.hid hrow; have HDI := Lib.hid hdi
        obtain ⟨ia, ic, rfl, -⟩ := hrtx.ins.any
        obtain ⟨oa, oc, rfl, -⟩ := hrtx.outs.any
        clear hdi hrow hrtx
        go_upto_region 6 with (first | ((with_reducible refine gate_load 66 (.tmp 22) ?_); refine wpList_load_at rfl 66 (.tmp 22) rfl g (off + i * 4) rfl _ _ HROW.out Tryd.underlying66 rfl (sz_tx _ _ _ _) ?_) | ((with_reducible refine gate_store 66 (.tmp 4) (.tmp 23) ?_); refine wpList_store_row rfl 66 (.tmp 4) (.tmp 23) rfl _ 0 rfl _ (txCells d _ _) rfl (Row.new [.int .i32 0, .slice none 0 0, .slice none 0 0, .int .u32 0] _ _ rfl) rfl (sz_tx _ _ _ _) (four_one _ _ _ _ _ _ _ _) ?_; intro W5 hr5 hc5; have HR5 := Lib.hid hr5; have HC5 := Lib.hid hc5; clear hr5 hc5))
        have HK5 := Lib.hid (keeps_chg (keeps_alloc (Keeps.refl wr) _) HC5.out (Nat.le_refl _))
        obtain ⟨q, hq⟩ : ∃ q, q = wr.heap.size := ⟨_, rfl⟩
        rw [← hq] at HR5 ⊢
        clear hq HC5
        have HCX := Lib.hid (fun (e : cbD d ≠ decide (i = 0)) => cb_bad hlt HDI.out e)
        have HCY := Lib.hid (fun (e : cbD d = decide (i = 0)) => (show ∀ j, j < i + 1 → CbAt l j from fun j hj => by
          by_cases hji : j = i
          · subst hji; intro d' hd'; rw [HDI.out] at hd'; cases hd'; exact e
          · exact HCB.out j (by omega)))
        generalize cbD d = CD at *
        rcases Nat.eq_zero_or_pos i with rfl | hpos
        · cases CD
          · go_wp2_with (first | ((with_reducible refine gate_load 66 (.tmp 4) ?_); refine wpList_load_at rfl 66 (.tmp 4) rfl q 0 rfl _ _ HR5.out Tryd.underlying66 rfl (sz_tx _ _ _ _) ?_) | (go_at_call 41; refine (HCO.out _ HK5.out).mono ?_; rintro e W6 ⟨rfl, hk6⟩; have HK6 := Lib.hid hk6; clear hk6))
            go_ret
            exact ⟨_, rfl, HG1.out 3 ⟨fun _ => rfl, fun hh => absurd hh (HCX.out (by simp))⟩, HK.out.trans (HKR.out.trans (HK5.out.trans HK6.out))⟩
          · go_wp2_with (first | ((with_reducible refine gate_load 66 (.tmp 4) ?_); refine wpList_load_at rfl 66 (.tmp 4) rfl q 0 rfl _ _ HR5.out Tryd.underlying66 rfl (sz_tx _ _ _ _) ?_) | (go_at_call 41; refine (HCO.out _ HK5.out).mono ?_; rintro e W6 ⟨rfl, hk6⟩; have HK6 := Lib.hid hk6; clear hk6))
            go_roundw
            case rel => exact ⟨0 + 1, by omega, by go_num, Lib.hid (HKR.out.trans (HK5.out.trans HK6.out)), Lib.hid (HCY.out (by simp))⟩
            case measure => simp [intOf]; omega
        · have hz : ((i : Int) == 0) = false := beq_eq_false_iff_ne.2 (by omega)
          have hdz : decide (i = 0) = false := decide_eq_false (by omega)
          rw [hdz] at HCX HCY
          clear hdz
          cases CD
          · go_wp2_with (first | ((with_reducible refine gate_load 66 (.tmp 4) ?_); refine wpList_load_at rfl 66 (.tmp 4) rfl q 0 rfl _ _ HR5.out Tryd.underlying66 rfl (sz_tx _ _ _ _) ?_) | (go_at_call 41; refine (HCO.out _ HK5.out).mono ?_; rintro e W6 ⟨rfl, hk6⟩; have HK6 := Lib.hid hk6; clear hk6))
            go_roundw
            case rel => exact ⟨i + 1, by omega, by go_num, Lib.hid (HKR.out.trans (HK5.out.trans HK6.out)), Lib.hid (HCY.out (by simp))⟩
            case measure => simp [intOf]; omega
          · go_wp2_with (first | ((with_reducible refine gate_load 66 (.tmp 4) ?_); refine wpList_load_at rfl 66 (.tmp 4) rfl q 0 rfl _ _ HR5.out Tryd.underlying66 rfl (sz_tx _ _ _ _) ?_) | (go_at_call 41; refine (HCO.out _ HK5.out).mono ?_; rintro e W6 ⟨rfl, hk6⟩; have HK6 := Lib.hid hk6; clear hk6))
            go_ret
            exact ⟨_, rfl, HG1.out 3 ⟨fun _ => rfl, fun hh => absurd hh (HCX.out (by simp))⟩, HK.out.trans (HKR.out.trans (HK5.out.trans HK6.out))⟩
      · obtain rfl : i = l.length := by omega
        have b0 := HBC.out _ HKR.out
        have hz0 : l.length = 0 ∨ 0 < l.length := by omega
        rcases hz0 with hz0 | hz0
        · have hcb0 : ¬ CbOk l := fun k => by have := k.1; omega
          have hz1 : ((l.length : Int) == 0) = true := beq_iff_eq.2 (by omega)
          clear hz0
          go_wp2
          go_ret
          exact ⟨_, rfl, HG1.out 3 ⟨fun _ => rfl, fun hh => absurd hh hcb0⟩, HK.out.trans HKR.out⟩
        · have hcb1 := CbOk.all hz0 HCB.out
          have hz1 : ((l.length : Int) == 0) = false := beq_eq_false_iff_ne.2 (by omega)
          have HG2 := Lib.hid (fun (r : Int) (h : (1000000 < BB.length → r = 2) ∧ (¬ 1000000 < BB.length → (merkle ≠ RT → r = 5) ∧ (merkle = RT → FirstErr l r ∨ (AllOk l ∧ (SameName l → r = 18) ∧ (¬ SameName l → r = 0))))) => HG1.out r ⟨fun h2 => absurd hcb1 h2, fun _ => h⟩)
          clear HG1 HCB hz0 hcb1
          have HRB := Lib.hid (HR.out.keeps HKR.out)
          generalize wr = wA at *
          by_cases hbig : 1000000 < BB.length
          · go_wp2_with (first | ((with_reducible refine gate_load 30 (.tmp 1) ?_); refine wpList_load_at rfl 30 (.tmp 1) rfl p 0 rfl _ _ HRB.out Tryd.underlying30 rfl (sz_blk _ _ HLL.out) ?_) | (go_at_call 42; refine (HEN.out _ (HK.out.trans HKR.out)).mono ?_; rintro e W6 ⟨v6, rfl, hO6⟩; obtain ⟨a6, c6, rfl⟩ := hO6.any; have HO6 := Lib.hid hO6; clear hO6))
            go_ret
            exact ⟨_, rfl, HG2.out 2 ⟨fun _ => rfl, fun hh => absurd hbig hh⟩, HK.out.trans (HKR.out.trans HO6.out.keeps)⟩
          · have HG3 := Lib.hid (fun (r : Int) (h : (merkle ≠ RT → r = 5) ∧ (merkle = RT → FirstErr l r ∨ (AllOk l ∧ (SameName l → r = 18) ∧ (¬ SameName l → r = 0)))) => HG2.out r ⟨fun h2 => absurd h2 hbig, fun _ => h⟩)
            clear HG2
            go_upto_region 13 with (first | ((with_reducible refine gate_load 30 (.tmp 1) ?_); refine wpList_load_at rfl 30 (.tmp 1) rfl p 0 rfl _ _ HRB.out Tryd.underlying30 rfl (sz_blk _ _ HLL.out) ?_) | (go_at_call 42; refine (HEN.out _ (HK.out.trans HKR.out)).mono ?_; rintro e W6 ⟨v6, rfl, hO6⟩; obtain ⟨a6, c6, rfl⟩ := hO6.any; have HO6 := Lib.hid hO6; clear hO6))
            have hkz : Keeps W0 W6 := HKR.out.trans HO6.out.keeps
            have HKZ := Lib.hid hkz
            have HMK := Lib.hid (HMR.out _ _ (HR.out.keeps hkz))
            have HRY := Lib.hid (HR.out.keeps hkz)
            clear hkz HRB hbig HO6 HEN HPV HMR
            refine wp_region_head (S := fun W => Hid ((fun W => Keeps W6 W) W)) 6 (by kernel_rfl) (by kernel_rfl) ?_ (fun hHeld => ?_)
            focus exact Lib.hid (keeps_drew (Keeps.refl _))
            refine wpAnyHL_take (i := 0) (oi := ?_) (v := ?_) ?_ ?_ ?_ ?_ ?_ ?_ ?_ ?_ ?_ (Or.inl ⟨?_, ?_⟩) ?_ ?_
            rotate_left 2
            focus (simp only [List.getElem?_toArray, List.getElem?_cons_succ, List.getElem?_cons_zero]; exact rfl)
            focus kernel_rfl
            focus kernel_rfl
            focus kernel_rfl
            focus kernel_rfl
            focus kernel_rfl
            focus kernel_rfl
            focus kernel_rfl
            focus (exact fun _ _ _ h => h)
            focus rfl
            focus ((intro wSw hSw; (have hSw := hSw.out); (try dsimp only at hSw); go_simp) <;> with_reducible rfl)
            focus assumption
            try simp only [Act.put, List.setIfInBounds_toArray, List.set_cons_zero, List.set_cons_succ]
            refine wpAnyHL_take (i := 1) (oi := ?_) (v := ?_) ?_ ?_ ?_ ?_ ?_ ?_ ?_ ?_ ?_ (Or.inl ⟨?_, ?_⟩) ?_ ?_
            rotate_left 2
            focus (simp only [List.getElem?_toArray, List.getElem?_cons_succ, List.getElem?_cons_zero]; exact rfl)
            focus kernel_rfl
            focus kernel_rfl
            focus kernel_rfl
            focus kernel_rfl
            focus kernel_rfl
            focus kernel_rfl
            focus kernel_rfl
            focus (exact fun _ _ _ h => h)
            focus rfl
            focus ((intro wSw hSw; (have hSw := hSw.out); (try dsimp only at hSw); go_simp) <;> with_reducible rfl)
            focus assumption
            try simp only [Act.put, List.setIfInBounds_toArray, List.set_cons_zero, List.set_cons_succ]
            refine wpAnyHL_take (i := 2) (oi := ?_) (v := ?_) ?_ ?_ ?_ ?_ ?_ ?_ ?_ ?_ ?_ (Or.inl ⟨?_, ?_⟩) ?_ ?_
            rotate_left 2
            focus (simp only [List.getElem?_toArray, List.getElem?_cons_succ, List.getElem?_cons_zero]; exact rfl)
            focus kernel_rfl
            focus kernel_rfl
            focus kernel_rfl
            focus kernel_rfl
            focus kernel_rfl
            focus kernel_rfl
            focus kernel_rfl
            focus (exact fun _ _ _ h => h)
            focus rfl
            focus (intro wSw hSw; (have hSw := hSw.out); (refine run_load_row 24 (.tmp 42) ?_ p 33 ?_ _ _ (HMK.out.keeps hSw) Tryd.underlying24 rfl ZM.out) <;> rfl)
            focus assumption
            try simp only [Act.put, List.setIfInBounds_toArray, List.set_cons_zero, List.set_cons_succ]
            refine wpAnyHL_take (i := 3) (oi := ?_) (v := ?_) ?_ ?_ ?_ ?_ ?_ ?_ ?_ ?_ ?_ (Or.inl ⟨?_, ?_⟩) ?_ ?_
            rotate_left 2
            focus (simp only [List.getElem?_toArray, List.getElem?_cons_succ, List.getElem?_cons_zero]; exact rfl)
            focus kernel_rfl
            focus kernel_rfl
            focus kernel_rfl
            focus kernel_rfl
            focus kernel_rfl
            focus kernel_rfl
            focus kernel_rfl
            focus (exact fun _ _ _ h => h)
            focus rfl
            focus (intro wSw hSw; (have hSw := hSw.out); (refine run_load_row 30 (.tmp 1) ?_ p 0 ?_ _ _ (HRY.out.keeps hSw) Tryd.underlying30 rfl (sz_blk _ _ HLL.out)) <;> rfl)
            focus assumption
            try simp only [Act.put, List.setIfInBounds_toArray, List.set_cons_zero, List.set_cons_succ]
            refine wpAnyHL_one (i := 4) (o := ?_) (by kernel_rfl) (by kernel_rfl) ?_ ?_
            rotate_left 1
            focus (simp only [List.getElem?_toArray, List.getElem?_cons_succ, List.getElem?_cons_zero]; exact rfl)
            go_wp2_with (go_at_call 10; refine (HRT.out _ (HK.out.trans (HKZ.out.trans hHeld.out))).mono ?_; rintro e W7 ⟨rfl, hk7⟩; have HK7 := Lib.hid hk7; clear hk7)
            try dsimp only [StepQ]
            refine ⟨?_, fun hHeld => ?_⟩
            focus (exact Lib.hid (hHeld.out.trans HK7.out))
            try simp only [Act.put, List.setIfInBounds_toArray, List.set_cons_zero, List.set_cons_succ]
            refine wpAnyHL_take (i := 5) (oi := ?_) (v := ?_) ?_ ?_ ?_ ?_ ?_ ?_ ?_ ?_ ?_ (Or.inl ⟨?_, ?_⟩) ?_ ?_
            rotate_left 2
            focus (simp only [List.getElem?_toArray, List.getElem?_cons_succ, List.getElem?_cons_zero]; exact rfl)
            focus kernel_rfl
            focus kernel_rfl
            focus kernel_rfl
            focus kernel_rfl
            focus kernel_rfl
            focus kernel_rfl
            focus kernel_rfl
            focus (exact fun _ _ _ h => h)
            focus rfl
            focus (intro wSw hSw; (have hSw := hSw.out); (refine run_neq_at 24 24 (.tmp 43) (.tmp 45) ?_ _ _ ?_ ?_ (decide (merkle = RT)) HE.out (by kernel_rfl)) <;> rfl)
            focus assumption
            try simp only [Act.put, List.setIfInBounds_toArray, List.set_cons_zero, List.set_cons_succ]
            refine wpAnyHL_done (by kernel_rfl) ?_
            try simp only [List.drop_succ_cons, List.drop_zero]
            have HKY := Lib.hid (HKZ.out.trans hHeld.out)
            clear hHeld HKZ HMK HRY HRT HE HK7
            by_cases hmk : merkle = RT
            rotate_left
            · rw [decide_eq_false hmk]
              go_wp2
              go_ret
              exact ⟨_, rfl, HG3.out 5 ⟨fun _ => rfl, fun hh => absurd hh hmk⟩, HK.out.trans HKY.out⟩
            · rw [decide_eq_true hmk]
              have HG4 := Lib.hid (fun (r : Int) (h : FirstErr l r ∨ (AllOk l ∧ (SameName l → r = 18) ∧ (¬ SameName l → r = 0))) => HG3.out r ⟨fun h2 => absurd hmk h2, fun _ => h⟩)
              clear HG3 hmk
              clear b0
              generalize W7 = WB at *
              have b0 := HBC.out _ HKY.out
              go_upto_region 16 with (fail)
              go_loopw [50] (fun c wr => ∃ i : Nat, i ≤ l.length ∧ c = .int .i64 i ∧ Hid (Keeps W0 wr) ∧ Hid (∀ j, j < i → ∀ d, l[j]? = some d → Chk d 0)) (fun c _ => (l.length - intOf c).toNat)
              case atStart => exact ⟨0, by omega, rfl, HKY, Lib.hid (fun j hj => by omega)⟩
              case round =>
                obtain ⟨i, hi, rfl, HKR2, HOK⟩ := hrel
                clear b0
                by_cases hlt : i < l.length
                · obtain ⟨g, off, iv, ov, d, rfl, hg, hdi, hrow, hrtx⟩ := (HT.out.keeps (HK.out.trans HKR2.out)).at hlt
                  have hfd := HF.out d (List.mem_of_getElem? hdi)
                  have HCO := Lib.hid (fun W (hk : Keeps wr W) => check_any S T R d iv ov hfd W (hrtx.keeps hk) (fun x hx => Nat.lt_of_lt_of_le (HS.out x hx) ((HK.out.trans HKR2.out).trans hk).size))
                  have HROW := Lib.hid hrow; have HDI := Lib.hid hdi
                  obtain ⟨ia, ic, rfl, -⟩ := hrtx.ins.any
                  obtain ⟨oa, oc, rfl, -⟩ := hrtx.outs.any
                  clear hdi hrow hrtx hfd
                  go_upto_region 18 with (first | ((with_reducible refine gate_load 66 (.tmp 52) ?_); refine wpList_load_at rfl 66 (.tmp 52) rfl g (off + i * 4) rfl _ _ HROW.out Tryd.underlying66 rfl (sz_tx _ _ _ _) ?_) | ((with_reducible refine gate_store 66 (.tmp 6) (.tmp 53) ?_); refine wpList_store_row rfl 66 (.tmp 6) (.tmp 53) rfl _ 0 rfl _ (txCells d _ _) rfl (Row.new [.int .i32 0, .slice none 0 0, .slice none 0 0, .int .u32 0] _ _ rfl) rfl (sz_tx _ _ _ _) (four_one _ _ _ _ _ _ _ _) ?_; intro W5 hr5 hc5; have HR5 := Lib.hid hr5; have HC5 := Lib.hid hc5; clear hr5 hc5))
                  have HK5 := Lib.hid (keeps_chg (keeps_alloc (Keeps.refl wr) _) HC5.out (Nat.le_refl _))
                  obtain ⟨q, hq⟩ : ∃ q, q = wr.heap.size := ⟨_, rfl⟩
                  rw [← hq] at HR5 ⊢
                  clear hq HC5
                  go_upto_region 19 with (first | ((with_reducible refine gate_load 66 (.tmp 6) ?_); refine wpList_load_at rfl 66 (.tmp 6) rfl q 0 rfl _ _ HR5.out Tryd.underlying66 rfl (sz_tx _ _ _ _) ?_) | (go_at_call 43; refine (HCO.out _ HK5.out).mono ?_; rintro e W6 ⟨r, rfl, hc6, hk6⟩; have HK6 := Lib.hid hk6; have HC6 := Lib.hid hc6; clear hk6 hc6))
                  by_cases hr0 : r = 0
                  · subst hr0
                    go_wp2
                    go_roundw
                    case rel =>
                      refine ⟨_, _, _, _, _, _, _, _, _, _, _, _, _, ⟨i + 1, by omega, by go_num, Lib.hid (HKR2.out.trans (HK5.out.trans HK6.out)), Lib.hid (fun j hj d' hd' => ?_)⟩, rfl⟩
                      by_cases hji : j = i
                      · subst hji; rw [HDI.out] at hd'; cases hd'; exact HC6.out
                      · exact HOK.out j (by omega) d' hd'
                    case measure => simp [intOf]; omega
                  · have hz : (r == 0) = false := beq_eq_false_iff_ne.2 hr0
                    have hfe : FirstErr l r := ⟨hr0, i, d, HDI.out, HC6.out, HOK.out⟩
                    have hz2 : (r != 0) = true := by simp [bne, hz]
                    go_wp2
                    go_ret
                    exact ⟨_, rfl, HG4.out r (.inl hfe), HK.out.trans (HKR2.out.trans (HK5.out.trans HK6.out))⟩
                · obtain rfl : i = l.length := by omega
                  have hall := all_of HOK.out
                  have HG5 := Lib.hid (fun (r : Int) (h : (SameName l → r = 18) ∧ (¬ SameName l → r = 0)) => HG4.out r (.inr ⟨hall, h⟩))
                  clear HG4 hall HOK hlt hi
                  generalize wr = wC at *
                  go_upto_region 23 with (refine wpList_makeMap_own (k := 24) (e := 4) rfl 92 rfl HKR2.out ?_; intro w1 hm1; have HM1 := Lib.hid hm1; clear hm1)
                  have b0 := HBC.out _ HM1.out.keeps
                  generalize wC.heap.size = mb at *
                  go_upto_region 24 with (fail)
                  go_loopw [64] (fun c wr => ∃ i : Nat, i ≤ l.length ∧ c = .int .i64 i ∧ ∃ m D, m ≤ i ∧ Hid (OMap 24 4 W0 wr mb m D) ∧ Hid (SeenN D (l.take i)) ∧ Hid (NoSame l i)) (fun c _ => (l.length - intOf c).toNat)
                  case atStart => exact ⟨0, by omega, rfl, 0, _, Nat.le_refl _, HM1, Lib.hid SeenN.nil, Lib.hid (fun m k a b hm => by omega)⟩
                  case round =>
                    obtain ⟨i, hi, rfl, m, D, hmi, HMAP, HSN, HND⟩ := hrel
                    clear b0
                    by_cases hlt : i < l.length
                    · obtain ⟨g, off, iv, ov, d, rfl, hg, hdi, hrow, hrtx⟩ := (HT.out.keeps (HK.out.trans HMAP.out.keeps)).at hlt
                      have hfd := HF.out d (List.mem_of_getElem? hdi)
                      have HCO := Lib.hid (fun W (hk : Keeps wr W) => id_any S T R d iv ov hfd W (hrtx.keeps hk) (fun x hx => Nat.lt_of_lt_of_le (HS.out x hx) ((HK.out.trans HMAP.out.keeps).trans hk).size))
                      have HROW := Lib.hid hrow; have HDI := Lib.hid hdi
                      obtain ⟨ia, ic, rfl, -⟩ := hrtx.ins.any
                      obtain ⟨oa, oc, rfl, -⟩ := hrtx.outs.any
                      obtain ⟨sb, hsb, hsiff⟩ := HSN.out.2 (nameD d) (nameD_len d) (nameD_bytes d)
                      have HKEY := Lib.hid (keyOf_hash (nameD d) (nameD_len d) (nameD_bytes d))
                      have ZN := Lib.hid (sz_h (nameD d) (nameD_len d)); have HNL := Lib.hid (nameD_len d)
                      have HSB := Lib.hid hsb; have HSIFF := Lib.hid hsiff
                      have hidn : idD d false = nameD d := rfl
                      rw [hidn] at HCO
                      have e1 : l.take (i + 1) = l.take i ++ [d] := by rw [List.take_add_one, hdi]; rfl
                      have HPUT := Lib.hid (fun (hm : Maps.IsMap (D.put (keyH (nameD d)) (.lit (.bool true)))) => HSN.out.put (d := d) hm)
                      have HND2 := Lib.hid (fun (hno : ¬ ∃ a ∈ l.take i, nameD a = nameD d) => (show NoSame l (i + 1) from fun m' k a b h1 h2 h3 h4 hsame => by
                        by_cases hmi2 : m' = i
                        · subst hmi2
                          rw [hdi] at h3
                          cases h3
                          refine hno ⟨b, List.mem_of_getElem? (i := k) ?_, hsame.symm⟩
                          rw [List.getElem?_take, if_pos h2]; exact h4
                        · exact HND.out m' k a b (by omega) h2 h3 h4 hsame))
                      have HSAME := Lib.hid (fun (hyes : ∃ a ∈ l.take i, nameD a = nameD d) => (show SameName l from by
                        obtain ⟨a, ha, e⟩ := hyes
                        obtain ⟨k, hk, e2⟩ := List.getElem_of_mem ha
                        have hk2 : k < i := by simp at hk; omega
                        have e3 : l[k]? = some a := by
                          have h5 : (l.take i)[k]? = some a := by rw [List.getElem?_eq_getElem hk, e2]
                          rw [List.getElem?_take] at h5
                          rwa [if_pos hk2] at h5
                        exact ⟨i, k, d, a, hk2, hdi, e3, e.symm⟩))
                      have HE1 := Lib.hid e1
                      clear hdi hrow hrtx hfd hsb hsiff hidn e1
                      generalize nameD d = ND at *
                      go_upto_region 26 with (first | ((with_reducible refine gate_load 66 (.tmp 66) ?_); refine wpList_load_at rfl 66 (.tmp 66) rfl g (off + i * 4) rfl _ _ HROW.out Tryd.underlying66 rfl (sz_tx _ _ _ _) ?_) | ((with_reducible refine gate_store 66 (.tmp 10) (.tmp 67) ?_); refine wpList_store_row rfl 66 (.tmp 10) (.tmp 67) rfl _ 0 rfl _ (txCells d _ _) rfl (Row.new [.int .i32 0, .slice none 0 0, .slice none 0 0, .int .u32 0] _ _ rfl) rfl (sz_tx _ _ _ _) (four_one _ _ _ _ _ _ _ _) ?_; intro W5 hr5 hc5; have HR5 := Lib.hid hr5; have HC5 := Lib.hid hc5; clear hr5 hc5))
                      have HK5 := Lib.hid (keeps_chg (keeps_alloc (Keeps.refl wr) _) HC5.out (Nat.le_refl _))
                      obtain ⟨q, hq⟩ : ∃ q, q = wr.heap.size := ⟨_, rfl⟩
                      rw [← hq] at HR5 ⊢
                      clear hq HC5
                      go_upto_region 27 with (first | ((with_reducible refine gate_load 66 (.tmp 10) ?_); refine wpList_load_at rfl 66 (.tmp 10) rfl q 0 rfl _ _ HR5.out Tryd.underlying66 rfl (sz_tx _ _ _ _) ?_) | (go_at_call 44; refine (HCO.out _ HK5.out).mono ?_; rintro e W6 ⟨rfl, hk6⟩; have HK6 := Lib.hid hk6; clear hk6) | ((with_reducible refine gate_store 24 (.tmp 11) (.tmp 69) ?_); refine wpList_store_row rfl 24 (.tmp 11) (.tmp 69) rfl _ 0 rfl _ (ND.map (Value.int .u8)) rfl (Row.new zeros32 _ _ rfl) (by rw [List.length_map, HNL.out]; rfl) ZN.out (int_oneCell _) ?_; intro W8 hr8 hc8; have HR8 := Lib.hid hr8; have HC8 := Lib.hid hc8; clear hr8 hc8))
                      have hk8 : Keeps wr W8 := (HK5.out.trans HK6.out).trans (keeps_chg (keeps_alloc (Keeps.refl _) _) HC8.out (Nat.le_refl _))
                      have HM8 := Lib.hid (HMAP.out.step hk8)
                      clear hk8 HC8
                      generalize W6.heap.size = q8 at *
                      cases sb
                      · go_wp2_with (first | ((with_reducible refine gate_load 24 (.tmp 11) ?_); refine wpList_load_at rfl 24 (.tmp 11) rfl q8 0 rfl _ _ HR8.out Tryd.underlying24 rfl ZN.out ?_) | (refine wpList_find_bool rfl _ _ 92 rfl hashKeyed Tryd.underlying92 Tryd.underlying4 HM8.out (zero_bool _) rfl _ _ rfl HKEY.out _ HSB.out ?_) | (refine wpList_insert_own rfl _ _ _ 92 (.inr rfl) hashKeyed Tryd.underlying92 HM8.out rfl (by unfold maxLen; omega) _ _ _ rfl rfl HKEY.out _ _ (plainElem_bool Tryd.underlying4 true) ?_; intro w9 hm9 hg9; have HM9 := Lib.hid hm9; clear hm9 hg9))
                        go_roundw
                        case rel => exact ⟨i + 1, by omega, by go_num, m + 1, _, by omega, HM9, Lib.hid (by rw [HE1.out]; exact HPUT.out HM9.out.own.isMap), Lib.hid (HND2.out (fun h => by have := HSIFF.out.2 h; cases this))⟩
                        case measure => simp [intOf]; omega
                      · go_wp2_with (first | ((with_reducible refine gate_load 24 (.tmp 11) ?_); refine wpList_load_at rfl 24 (.tmp 11) rfl q8 0 rfl _ _ HR8.out Tryd.underlying24 rfl ZN.out ?_) | (refine wpList_find_bool rfl _ _ 92 rfl hashKeyed Tryd.underlying92 Tryd.underlying4 HM8.out (zero_bool _) rfl _ _ rfl HKEY.out _ HSB.out ?_))
                        go_ret
                        exact ⟨_, rfl, HG5.out 18 ⟨fun _ => rfl, fun hh => absurd (HSAME.out (HSIFF.out.1 (by trivial))) hh⟩, HK.out.trans HM8.out.keeps⟩
                    · obtain rfl : i = l.length := by omega
                      have hns := HND.out.all
                      go_wp2
                      go_ret
                      exact ⟨_, rfl, HG5.out 0 ⟨fun hh => absurd hh hns, fun _ => rfl⟩, HK.out.trans HMAP.out.keeps⟩
end Go.Proofs.YtclhjlkgmeofcaaDoor
