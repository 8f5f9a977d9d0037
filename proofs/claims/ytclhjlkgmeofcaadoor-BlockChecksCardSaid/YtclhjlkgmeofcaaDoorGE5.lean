/- strongboxlaw10.BlockChecks: it says yes, whatever the block and the tries. -/
import Derived.Test.YtclhjlkgmeofcaaDoorGE4
import Derived.Test.YtclhjlkgmeofcaaDoorGD6
namespace Go.Proofs.YtclhjlkgmeofcaaDoor
set_option linter.unusedVariables false
set_option linter.unusedSimpArgs false
open Go Go.RowKit

theorem headCells_set (ver : Int) (prev merkle : List Int) (t b n m : Int) (tv : Value) (hp : prev.length = 32) (hm : merkle.length = 32) : (headCells ver prev merkle t b n ++ [tv]).set 67 (.int .u32 m) = headCells ver prev merkle t b m ++ [tv] := by
  have e : ∀ n, headCells ver prev merkle t b n ++ [tv] = (Value.int .i32 ver :: (prev.map (Value.int .u8) ++ merkle.map (Value.int .u8))) ++ [.int .u32 t, .int .u32 b, .int .u32 n, tv] := fun n => by simp [headCells]
  have hl : (Value.int .i32 ver :: (prev.map (Value.int .u8) ++ merkle.map (Value.int .u8))).length = 65 := by simp [hp, hm]
  rw [e n, e m, List.set_append_right _ _ (by omega), hl]
  rfl
theorem head_nonce {ver : Int} {prev merkle : List Int} {t b n m : Int} (h : HeadOk ver prev merkle t b n) (hm : U32 m) : HeadOk ver prev merkle t b m := ⟨h.ver, h.prevLen, h.prev, h.merkleLen, h.merkle, h.time, h.bits, hm⟩
set_option maxRecDepth 100000 in
set_option maxHeartbeats 8000000 in
theorem checks_any (ver : Int) (prev merkle : List Int) (t b n : Int) (hok : HeadOk ver prev merkle t b n) (tv : Value) (l : List TxD) (tries : Int) (w : World) (ht : RTxs AnyB AnyB AnyB w tv l) :
    Calls Tryd.prog 4 #[.agg (headCells ver prev merkle t b n ++ [tv]).toArray, .int .i64 tries] w fun e w' => e = .returned (.bool true) ∧ Keeps w w' := by
  have hl := headCells_length hok
  obtain ⟨ta, tc, rfl, htc, htm⟩ := ht.any
  have HFW := Lib.hid (fun W (hk : Keeps w W) => bfew_loop (headCells ver prev merkle t b n) hl headCells_one (.slice ta l.length tc) l W (ht.keeps hk))
  have HFT := Lib.hid (few_fits ht 12)
  have hd12 : ((l.take 12).map (fewD 4 200)).length ≤ 12 := by simp; omega
  have HAW := Lib.hid awake_any
  generalize (l.take 12).map (fewD 4 200) = D at *
  have HOK := Lib.hid hok; have HL := Lib.hid hl
  have hpl := hok.prevLen
  have hml := hok.merkleLen
  have HPL := Lib.hid hpl; have HML := Lib.hid hml
  clear ht hok hl hpl hml
  obtain ⟨HC, hHC⟩ : ∃ HC : Int → List Value, HC = fun m => headCells ver prev merkle t b m := ⟨_, rfl⟩
  have hHC2 : ∀ m, headCells ver prev merkle t b m = HC m := fun m => by rw [hHC]
  have HHC := Lib.hid hHC2
  clear hHC
  rw [hHC2 n] at HFW HL ⊢
  clear hHC2
  go_enter Tryd.func4, Tryd.ntmps4
  go_upto_region 1 with (fail)
  refine wp_rows1 (fun W0 hk hr1 hsz => ?_)
  have hr1 : Row W0 w.heap.size 0 (HC n ++ [.slice ta l.length tc]) := by simpa using hr1
  obtain ⟨p, hp⟩ : ∃ p, p = w.heap.size := ⟨_, rfl⟩
  rw [← hp] at hr1 hsz ⊢
  have HP := Lib.hid hp; have HK := Lib.hid hk; have HR1 := Lib.hid hr1
  clear hp hk hr1 hsz
  go_upto_region 3 with (go_at_call 6; refine (HAW.out _).mono ?_; rintro e W2 ⟨rfl, hk2⟩; have HK2 := Lib.hid hk2; clear hk2)
  go_upto_region 4 with (first | ((with_reducible refine gate_load 30 (.tmp 2) ?_); refine wpList_load_at rfl 30 (.tmp 2) rfl p 0 rfl _ _ (HR1.out.keeps HK2.out) Tryd.underlying30 rfl (sz_blk _ _ HL.out) ?_) | (go_at_call 7; refine (HFW.out _ (HK.out.trans HK2.out)).mono ?_; rintro e W3 ⟨tv3, B3, hb3, hn3, rfl, hk3, hr3⟩; have HB3 := Lib.hid hb3; have HN3 := Lib.hid hn3; clear hb3 hn3; have HK3 := Lib.hid hk3; have HT3 := Lib.hid hr3; clear hk3 hr3) | ((with_reducible refine gate_store 30 (.tmp 2) (.tmp 9) ?_); refine wpList_store_row rfl 30 (.tmp 2) (.tmp 9) rfl p 0 rfl (HC n ++ [.slice ta l.length tc]) (HC n ++ [tv3]) rfl ((HR1.out.keeps HK2.out).keeps HK3.out) (by rw [List.length_append, List.length_append]; rfl) (sz_blk _ _ HL.out) (blk_one (by rw [← HHC.out n]; exact headCells_one) (by obtain ⟨_, _, e, _⟩ := HT3.out.any; rw [e]; rfl)) ?_; intro W9 hr9 hc9; have HR9 := Lib.hid hr9; have HC9 := Lib.hid hc9; clear hr9 hc9))
  have hp := HP.out
  have hkw := HK.out.size
  have hpl : p < W0.heap.size := HR1.out.lt (by simp)
  have hk9 : Keeps w W9 := keeps_chg ((HK.out.trans HK2.out).trans HK3.out) HC9.out (by omega)
  have ht9 : RTxs (Btw B3 W3.heap.size) (Btw B3 W3.heap.size) (Btw B3 W3.heap.size) W9 tv3 D := by
    have hb3 := HB3.out
    have h2 := HK2.out.size
    exact HT3.out.chg HC9.out (fun g e e2 => by have := HN3.out g e; omega) (fun g e e2 => by have := e.1; omega) (fun g e e2 => by have := e.1; omega) (fun g e e2 => by have := e.1; omega)
  have hS9 : ∀ g, Btw B3 W3.heap.size g → g < W9.heap.size := fun g e => Nat.lt_of_lt_of_le e.2 HC9.out.size
  have hpB : p < B3 := by have := HB3.out; have := HK2.out.size; omega
  have HK9 := Lib.hid hk9; have HT9 := Lib.hid ht9; have HS9 := Lib.hid hS9; have HN9 := Lib.hid HN3.out
  have HPB := Lib.hid hpB
  have hpw : w.heap.size ≤ p := by omega
  have HPW := Lib.hid hpw
  clear hk9 ht9 hS9 hp hkw hpl HT3 HK2 HK3 HC9 HR1 HB3 HN3 hpB hpw
  generalize W3.heap.size = E3 at *
  go_wp2
  go_loopw [5] (fun c wr => ∃ (i : Nat) (m : Int), i ≤ 6 ∧ c = .int .i64 i ∧ Hid (HeadOk ver prev merkle t b m) ∧ Hid (Row wr p 0 (HC m ++ [tv3])) ∧ Hid (Chg (· = p) W9 wr)) (fun c _ => (6 - intOf c).toNat)
  case atStart => exact ⟨0, n, by omega, rfl, HOK, HR9, Lib.hid (Chg.refl _ _)⟩
  case round =>
    obtain ⟨i, m, hi, rfl, HOM, HRM, HCM⟩ := hrel
    have HPV := Lib.hid (fun W => rproved_any ver prev merkle t b m HOM.out W)
    have HPP := Lib.hid (fun W => proved_any ver prev merkle t b m HOM.out W)
    have hlm := headCells_length HOM.out
    have zh := sz_head ver prev merkle t b m HPL.out HML.out
    have HMH := Lib.hid (blk_head HRM.out (by rw [← HHC.out m]; exact hlm))
    rw [HHC.out m] at HPV HPP hlm zh
    have HLM := Lib.hid hlm; have ZH := Lib.hid zh
    clear hlm zh
    have hcell : ∀ W, Keeps wr W → W.cell? ⟨p, 67, none⟩ = some (.int .u32 m) ∧ W.frozen? ⟨p, 67, none⟩ = false := fun W hk => by
      have h67 := (headCells_at ver prev merkle t b m HPL.out HML.out).2.2
      rw [HHC.out m] at h67
      have := (HMH.out.keeps hk) 67 _ h67
      rwa [Nat.zero_add] at this
    have HCELL := Lib.hid hcell
    have HSET := Lib.hid (headCells_set ver prev merkle t b m ((m + 1) % 4294967296) tv3 HPL.out HML.out)
    rw [HHC.out m, HHC.out] at HSET
    have HNX := Lib.hid (head_nonce HOM.out (m := (m + 1) % 4294967296) ⟨by omega, by omega⟩)
    clear hcell
    generalize hPV : provedD b (hidD ver prev merkle t b m) = PV at *
    have HPVE := Lib.hid hPV
    clear hPV
    have hcases : (((i : Int) < tries ∧ (i : Int) < 6 ∧ PV = false) ∨ (¬ (i : Int) < tries)) ∨ ((i : Int) < tries ∧ ¬ (i : Int) < 6) ∨ ((i : Int) < tries ∧ (i : Int) < 6 ∧ PV = true) := by
      by_cases q1 : (i : Int) < tries
      · by_cases q2 : (i : Int) < 6
        · cases PV
          · exact .inl (.inl ⟨q1, q2, rfl⟩)
          · exact .inr (.inr ⟨q1, q2, rfl⟩)
        · exact .inr (.inl ⟨q1, q2⟩)
      · exact .inl (.inr q1)
    have hfin : ∀ (WZ : World), Keeps wr WZ → Keeps w WZ ∧ Row WZ p 0 (HC m ++ [tv3]) ∧ RTxs (Btw B3 E3) (Btw B3 E3) (Btw B3 E3) WZ tv3 D ∧ (∀ g, Btw B3 E3 g → g < WZ.heap.size) := fun WZ hk => by
      have hb := HPB.out
      have h1 : Keeps w wr := keeps_chg HK9.out HCM.out HPW.out
      refine ⟨h1.trans hk, HRM.out.keeps hk, (HT9.out.chg HCM.out (fun g e e2 => by have := HN9.out g e; omega) (fun g e e2 => by have := e.1; omega) (fun g e e2 => by have := e.1; omega) (fun g e e2 => by have := e.1; omega)).keeps hk, fun g e => ?_⟩
      have := HS9.out g e; have := HCM.out.size; have := hk.size; omega
    have HFIN := Lib.hid hfin
    clear hfin
    rcases hcases with (⟨q1, q2, rfl⟩ | q1) | (⟨q1, q2⟩ | ⟨q1, q2, rfl⟩)
    · go_upto_region 7 with (first | ((with_reducible refine gate_load 27 (.tmp 18) ?_); refine wpList_load_on (by kernel_rfl) 27 (.tmp 18) rfl p 0 rfl _ _ HMH.out Tryd.underlying27 rfl ZH.out ?_) | (go_at_call 12; refine (HPV.out _).mono ?_; rintro e W6 ⟨rfl, hk6⟩; have HK6 := Lib.hid hk6; clear hk6))
      obtain ⟨c67, f67⟩ := HCELL.out _ HK6.out
      have hw : IntKind.u32.wrap (m + 1) = (m + 1) % 4294967296 := by rw [IntKind.wrap_u32]
      go_wp2
      go_roundw
      case rel =>
        refine ⟨i + 1, (m + 1) % 4294967296, by omega, by go_num, HNX, Lib.hid ?_, Lib.hid ?_⟩
        · have := (HRM.out.keeps HK6.out).set 67 (by rw [List.length_append, HLM.out]; omega) (.int .u32 ((m + 1) % 4294967296))
          rw [HSET.out, Nat.zero_add] at this
          exact this
        · exact (HCM.out.trans (HK6.out.chg _)).setCell (.inr rfl) _
      case measure => simp [intOf]; omega
    all_goals
      go_upto_region 8 with (first | ((with_reducible refine gate_load 27 (.tmp 18) ?_); refine wpList_load_on (by kernel_rfl) 27 (.tmp 18) rfl p 0 rfl _ _ HMH.out Tryd.underlying27 rfl ZH.out ?_) | (go_at_call 12; refine (HPV.out _).mono ?_; rintro e W6 ⟨rfl, hk6⟩; have HK6 := Lib.hid hk6; clear hk6))
      refine wp_gen (fun W => Keeps w W ∧ Row W p 0 (HC m ++ [tv3]) ∧ RTxs (Btw B3 E3) (Btw B3 E3) (Btw B3 E3) W tv3 D ∧ (∀ g, Btw B3 E3 g → g < W.heap.size)) ?_ ?_
      focus
        first
          | exact HFIN.out _ (Keeps.refl _)
          | exact HFIN.out _ HK6.out
      intro WZ ⟨h1, h2, h3, h4⟩
      have hhd := blk_head h2 (by rw [← HHC.out m]; exact headCells_length HOM.out)
      have HKZ := Lib.hid h1; have HRZ := Lib.hid h2; have HHZ := Lib.hid hhd
      have HB1 := Lib.hid (fun W (hk : Keeps WZ W) => bcheck_any ver prev merkle t b m HOM.out _ _ _ tv3 D HFT.out hd12 W (h3.keeps hk) (fun g e => Nat.lt_of_lt_of_le (h4 g e) hk.size))
      have HB2 := Lib.hid (fun W (hk : Keeps WZ W) => rbcheck_any ver prev merkle t b m HOM.out _ _ _ tv3 D HFT.out hd12 W (h3.keeps hk))
      rw [HHC.out m] at HB1 HB2
      have hsz := sz_blk (HC m) tv3 HLM.out
      have ZB := Lib.hid hsz
      clear h1 h2 h3 h4 hhd hsz HFIN HCELL HSET HNX
      try clear HK6
      refine wp_region_head (S := fun W => Hid ((fun W => Keeps WZ W) W)) 13 (by kernel_rfl) (by kernel_rfl) ?_ (fun hHeld => ?_)
      focus exact Lib.hid (keeps_drew (Keeps.refl _))
      refine wpAnyHL_take (i := 0) (oi := ?_) (v := ?_) ?_ ?_ ?_ ?_ ?_ ?_ ?_ ?_ ?_ (Or.inl ⟨?_, ?_⟩) ?_ ?_
      rotate_left 2
      focus (simp only [List.getElem?_toArray, List.getElem?_cons_succ, List.getElem?_cons_zero]; exact rfl)
      focus kernel_rfl
      focus kernel_rfl
      focus kernel_rfl
      focus kernel_rfl
      focus kernel_rfl
      focus kernel_rfl
      focus kernel_rfl
      focus (exact fun _ _ _ h => h)
      focus rfl
      focus ((intro wSw hSw; (have hSw := hSw.out); (try dsimp only at hSw); go_simp) <;> with_reducible rfl)
      focus assumption
      try simp only [Act.put, List.setIfInBounds_toArray, List.set_cons_zero, List.set_cons_succ]
      refine wpAnyHL_take (i := 1) (oi := ?_) (v := ?_) ?_ ?_ ?_ ?_ ?_ ?_ ?_ ?_ ?_ (Or.inl ⟨?_, ?_⟩) ?_ ?_
      rotate_left 2
      focus (simp only [List.getElem?_toArray, List.getElem?_cons_succ, List.getElem?_cons_zero]; exact rfl)
      focus kernel_rfl
      focus kernel_rfl
      focus kernel_rfl
      focus kernel_rfl
      focus kernel_rfl
      focus kernel_rfl
      focus kernel_rfl
      focus (exact fun _ _ _ h => h)
      focus rfl
      focus (intro wSw hSw; (have hSw := hSw.out); (refine run_load_row 27 (.tmp 31) ?_ p 0 ?_ _ _ (HHZ.out.keeps hSw) Tryd.underlying27 rfl ZH.out) <;> rfl)
      focus assumption
      try simp only [Act.put, List.setIfInBounds_toArray, List.set_cons_zero, List.set_cons_succ]
      refine wpAnyHL_take (i := 3) (oi := ?_) (v := ?_) ?_ ?_ ?_ ?_ ?_ ?_ ?_ ?_ ?_ (Or.inl ⟨?_, ?_⟩) ?_ ?_
      rotate_left 2
      focus (simp only [List.getElem?_toArray, List.getElem?_cons_succ, List.getElem?_cons_zero]; exact rfl)
      focus kernel_rfl
      focus kernel_rfl
      focus kernel_rfl
      focus kernel_rfl
      focus kernel_rfl
      focus kernel_rfl
      focus kernel_rfl
      focus (exact fun _ _ _ h => h)
      focus rfl
      focus ((intro wSw hSw; (have hSw := hSw.out); (try dsimp only at hSw); go_simp) <;> with_reducible rfl)
      focus assumption
      try simp only [Act.put, List.setIfInBounds_toArray, List.set_cons_zero, List.set_cons_succ]
      refine wpAnyHL_take (i := 4) (oi := ?_) (v := ?_) ?_ ?_ ?_ ?_ ?_ ?_ ?_ ?_ ?_ (Or.inl ⟨?_, ?_⟩) ?_ ?_
      rotate_left 2
      focus (simp only [List.getElem?_toArray, List.getElem?_cons_succ, List.getElem?_cons_zero]; exact rfl)
      focus kernel_rfl
      focus kernel_rfl
      focus kernel_rfl
      focus kernel_rfl
      focus kernel_rfl
      focus kernel_rfl
      focus kernel_rfl
      focus (exact fun _ _ _ h => h)
      focus rfl
      focus (intro wSw hSw; (have hSw := hSw.out); (refine run_load_row 27 (.tmp 34) ?_ p 0 ?_ _ _ (HHZ.out.keeps hSw) Tryd.underlying27 rfl ZH.out) <;> rfl)
      focus assumption
      try simp only [Act.put, List.setIfInBounds_toArray, List.set_cons_zero, List.set_cons_succ]
      refine wpAnyHL_one (i := 2) (o := ?_) (by kernel_rfl) (by kernel_rfl) ?_ ?_
      rotate_left 1
      focus (simp only [List.getElem?_toArray, List.getElem?_cons_succ, List.getElem?_cons_zero]; exact rfl)
      go_wp2_with (go_at_call 13; refine (HPP.out _).mono ?_; rintro e W11 ⟨rfl, hk11⟩; have HK11 := Lib.hid hk11; clear hk11)
      try dsimp only [StepQ]
      refine ⟨?_, fun hHeld => ?_⟩
      focus (exact Lib.hid (hHeld.out.trans HK11.out))
      try simp only [Act.put, List.setIfInBounds_toArray, List.set_cons_zero, List.set_cons_succ]
      refine wpAnyHL_one (i := 5) (o := ?_) (by kernel_rfl) (by kernel_rfl) ?_ ?_
      rotate_left 1
      focus (simp only [List.getElem?_toArray, List.getElem?_cons_succ, List.getElem?_cons_zero]; exact rfl)
      go_wp2_with (go_at_call 12; refine (HPV.out _).mono ?_; rintro e W12 ⟨rfl, hk12⟩; have HK12 := Lib.hid hk12; clear hk12)
      try dsimp only [StepQ]
      refine ⟨?_, fun hHeld => ?_⟩
      focus (exact Lib.hid (hHeld.out.trans HK12.out))
      try simp only [Act.put, List.setIfInBounds_toArray, List.set_cons_zero, List.set_cons_succ]
      refine wpAnyHL_take (i := 6) (oi := ?_) (v := ?_) ?_ ?_ ?_ ?_ ?_ ?_ ?_ ?_ ?_ (Or.inl ⟨?_, ?_⟩) ?_ ?_
      rotate_left 2
      focus (simp only [List.getElem?_toArray, List.getElem?_cons_succ, List.getElem?_cons_zero]; exact rfl)
      focus kernel_rfl
      focus kernel_rfl
      focus kernel_rfl
      focus kernel_rfl
      focus kernel_rfl
      focus kernel_rfl
      focus kernel_rfl
      focus (exact fun _ _ _ h => h)
      focus rfl
      focus ((intro wSw hSw; (have hSw := hSw.out); (try dsimp only at hSw); go_simp) <;> with_reducible rfl)
      focus assumption
      try simp only [Act.put, List.setIfInBounds_toArray, List.set_cons_zero, List.set_cons_succ]
      refine wpAnyHL_take (i := 7) (oi := ?_) (v := ?_) ?_ ?_ ?_ ?_ ?_ ?_ ?_ ?_ ?_ (Or.inl ⟨?_, ?_⟩) ?_ ?_
      rotate_left 2
      focus (simp only [List.getElem?_toArray, List.getElem?_cons_succ, List.getElem?_cons_zero]; exact rfl)
      focus kernel_rfl
      focus kernel_rfl
      focus kernel_rfl
      focus kernel_rfl
      focus kernel_rfl
      focus kernel_rfl
      focus kernel_rfl
      focus (exact fun _ _ _ h => h)
      focus rfl
      focus ((intro wSw hSw; (have hSw := hSw.out); (try dsimp only at hSw); go_simp) <;> with_reducible rfl)
      focus assumption
      try simp only [Act.put, List.setIfInBounds_toArray, List.set_cons_zero, List.set_cons_succ]
      refine wpAnyHL_take (i := 8) (oi := ?_) (v := ?_) ?_ ?_ ?_ ?_ ?_ ?_ ?_ ?_ ?_ (Or.inl ⟨?_, ?_⟩) ?_ ?_
      rotate_left 2
      focus (simp only [List.getElem?_toArray, List.getElem?_cons_succ, List.getElem?_cons_zero]; exact rfl)
      focus kernel_rfl
      focus kernel_rfl
      focus kernel_rfl
      focus kernel_rfl
      focus kernel_rfl
      focus kernel_rfl
      focus kernel_rfl
      focus (exact fun _ _ _ h => h)
      focus rfl
      focus (intro wSw hSw; (have hSw := hSw.out); (refine run_load_row 30 (.tmp 2) ?_ p 0 ?_ _ _ (HRZ.out.keeps hSw) Tryd.underlying30 rfl ZB.out) <;> rfl)
      focus assumption
      try simp only [Act.put, List.setIfInBounds_toArray, List.set_cons_zero, List.set_cons_succ]
      refine wpAnyHL_take (i := 10) (oi := ?_) (v := ?_) ?_ ?_ ?_ ?_ ?_ ?_ ?_ ?_ ?_ (Or.inl ⟨?_, ?_⟩) ?_ ?_
      rotate_left 2
      focus (simp only [List.getElem?_toArray, List.getElem?_cons_succ, List.getElem?_cons_zero]; exact rfl)
      focus kernel_rfl
      focus kernel_rfl
      focus kernel_rfl
      focus kernel_rfl
      focus kernel_rfl
      focus kernel_rfl
      focus kernel_rfl
      focus (exact fun _ _ _ h => h)
      focus rfl
      focus (intro wSw hSw; (have hSw := hSw.out); (refine run_load_row 30 (.tmp 2) ?_ p 0 ?_ _ _ (HRZ.out.keeps hSw) Tryd.underlying30 rfl ZB.out) <;> rfl)
      focus assumption
      try simp only [Act.put, List.setIfInBounds_toArray, List.set_cons_zero, List.set_cons_succ]
      refine wpAnyHL_one (i := 9) (o := ?_) (by kernel_rfl) (by kernel_rfl) ?_ ?_
      rotate_left 1
      focus (simp only [List.getElem?_toArray, List.getElem?_cons_succ, List.getElem?_cons_zero]; exact rfl)
      go_wp2_with (go_at_call 14; refine (HB1.out _ hHeld.out).mono ?_; rintro e W13 ⟨r, rfl, hc13, hk13⟩; have HK13 := Lib.hid hk13; have HC13 := Lib.hid hc13; clear hk13 hc13)
      try dsimp only [StepQ]
      refine ⟨?_, fun hHeld => ?_⟩
      focus (exact Lib.hid (hHeld.out.trans HK13.out))
      try simp only [Act.put, List.setIfInBounds_toArray, List.set_cons_zero, List.set_cons_succ]
      refine wpAnyHL_one (i := 11) (o := ?_) (by kernel_rfl) (by kernel_rfl) ?_ ?_
      rotate_left 1
      focus (simp only [List.getElem?_toArray, List.getElem?_cons_succ, List.getElem?_cons_zero]; exact rfl)
      go_wp2_with (go_at_call 15; refine (HB2.out _ hHeld.out).mono ?_; rintro e W14 ⟨r2, rfl, hc14, hk14⟩; obtain rfl := BChk.fn HC13.out hc14; have HK14 := Lib.hid hk14; clear hk14 hc14)
      try dsimp only [StepQ]
      refine ⟨?_, fun hHeld => ?_⟩
      focus (exact Lib.hid (hHeld.out.trans HK14.out))
      try simp only [Act.put, List.setIfInBounds_toArray, List.set_cons_zero, List.set_cons_succ]
      refine wpAnyHL_take (i := 12) (oi := ?_) (v := ?_) ?_ ?_ ?_ ?_ ?_ ?_ ?_ ?_ ?_ (Or.inl ⟨?_, ?_⟩) ?_ ?_
      rotate_left 2
      focus (simp only [List.getElem?_toArray, List.getElem?_cons_succ, List.getElem?_cons_zero]; exact rfl)
      focus kernel_rfl
      focus kernel_rfl
      focus kernel_rfl
      focus kernel_rfl
      focus kernel_rfl
      focus kernel_rfl
      focus kernel_rfl
      focus (exact fun _ _ _ h => h)
      focus rfl
      focus ((intro wSw hSw; (have hSw := hSw.out); (try dsimp only at hSw); go_simp) <;> with_reducible rfl)
      focus assumption
      try simp only [Act.put, List.setIfInBounds_toArray, List.set_cons_zero, List.set_cons_succ]
      refine wpAnyHL_done (by kernel_rfl) ?_
      try simp only [List.drop_succ_cons, List.drop_zero]
      go_wp2
      go_ret
      exact ⟨by first | rfl | exact ret_bool (by simp), HKZ.out.trans hHeld.out⟩
end Go.Proofs.YtclhjlkgmeofcaaDoor
