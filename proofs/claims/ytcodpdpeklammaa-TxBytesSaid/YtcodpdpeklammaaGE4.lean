/- tx.Same. -/
import Derived.Test.YtcodpdpeklammaaGE3
import Derived.Test.YtcodpdpeklammaaGA3
namespace Go.Proofs.Ytcodpdpeklammaa
set_option linter.unusedVariables false
set_option linter.unusedSimpArgs false
open Go Go.RowKit

theorem equal_any {S S' : Nat → Prop} {w : World} {v v' : Value} {l l' : List Int} (h : RB S w v l) (h' : RB S' w v' l') : Calls Try.prog 67 #[v, v'] w fun e w' => e = .returned (.bool (decide (l = l'))) ∧ w = w' := by
  refine (Try.bytes_Equal_strs v v' _ _ w (conv_any h) (conv_any h')).mono ?_
  rintro r W ⟨rfl, rfl⟩
  refine ⟨?_, rfl⟩
  by_cases e : l = l'
  · subst e
    exact ret_bool (by simp)
  · have h1 : ((strOfNums l).toList == (strOfNums l').toList) = false := beq_eq_false_iff_ne.2 (fun h2 => e (strOf_inj h.bytes h'.bytes (by
      rw [ByteArray.toList_eq, ByteArray.toList_eq] at h2
      exact ByteArray.ext (Array.toList_inj.1 h2))))
    exact ret_bool (by rw [h1, decide_eq_false e])
set_option maxRecDepth 100000 in
set_option maxHeartbeats 1000000 in
theorem eqfB_any {S T S' T' : Nat → Prop} {w : World} {v v' : Value} {ls ls' : List (List Int)} (h : RLL S T w v ls) (h' : RLL S' T' w v' ls') :
    Calls Try.prog 68 #[v, v', .func (.func 67) #[] #[]] w fun e w' => e = .returned (.bool (decide (ls = ls'))) ∧ Keeps w w' := by
  have H1 := Lib.hid h; have H2 := Lib.hid h'
  obtain ⟨a, c, rfl, hc, hcm, -⟩ := h.any
  obtain ⟨a', c', rfl, hc', hcm', -⟩ := h'.any
  have hsm : ls.length * 24 ≤ 140737488355328 := by obtain ⟨_, h⟩ := h; exact h.small
  have hsm' : ls'.length * 24 ≤ 140737488355328 := by obtain ⟨_, h⟩ := h'; exact h.small
  clear h h'
  by_cases hlen : ls.length = ls'.length
  rotate_left
  · have hne : ¬ ls = ls' := fun e => hlen (by rw [e])
    have hz : ((ls.length : Int) == ls'.length) = false := beq_eq_false_iff_ne.2 (by omega)
    rw [decide_eq_false hne]
    go_enter Try.func68, Try.ntmps68
    go_wp2
    go_ret
    exact ⟨by first | rfl | exact ret_bool (by simp), Keeps.refl _⟩
  · obtain ⟨R, hR⟩ : ∃ R : Bool, R = decide (ls = ls') := ⟨_, rfl⟩
    rw [← hR]
    have HR := Lib.hid hR
    clear hR
    have HLEN := Lib.hid hlen
    have hz : ((ls.length : Int) == ls'.length) = true := beq_iff_eq.2 (by omega)
    clear hlen
    go_enter Try.func68, Try.ntmps68
    go_upto_region 3 with (fail)
    clear hz
    try (rename (((ls.length : Int) != (ls'.length : Int)) = false) => hbad; clear hbad)
    go_wp2
    go_loopw [7, 8, 9, 17] (fun _ _ _ c wr => ∃ i : Nat, i ≤ ls.length ∧ c = .int .i64 i ∧ Hid (Keeps w wr) ∧ Hid (∀ j, j < i → ls.getD j [] = ls'.getD j [])) (fun _ _ _ c _ => (ls.length - intOf c).toNat)
    case atStart => exact ⟨0, by omega, rfl, Lib.hid (Keeps.refl _), Lib.hid (fun j hj => by omega)⟩
    case round =>
      obtain ⟨i, hi, rfl, HK, HE⟩ := hrel
      by_cases hlt : i < ls.length
      · obtain ⟨g, off, u, rfl, hg, hcell, hu⟩ := (H1.out.keeps HK.out).at i hlt
        obtain ⟨g', off', u', rfl, hg', hcell', hu'⟩ := (H2.out.keeps HK.out).at i (by rw [← HLEN.out]; exact hlt)
        have hlt' : i < ls'.length := by rw [← HLEN.out]; exact hlt
        have hq := Lib.hid (equal_any hu hu')
        clear hu hu'
        by_cases e : ls.getD i [] = ls'.getD i []
        · rw [decide_eq_true e] at hq
          have HE2 := Lib.hid e
          clear e
          go_wp2_with (go_at_call 67; refine hq.out.mono ?_; rintro e W2 ⟨rfl, rfl⟩)
          go_roundw
          case rel =>
            refine ⟨i + 1, by omega, by go_num, HK, Lib.hid fun j hj => ?_⟩
            by_cases hji : j = i
            · subst hji; exact HE2.out
            · exact HE.out j (by omega)
          case measure => simp [intOf]; omega
        · rw [decide_eq_false e] at hq
          have hne : R = false := by rw [HR.out]; exact decide_eq_false (fun h => e (by rw [h]))
          subst hne
          clear e
          go_wp2_with (go_at_call 67; refine hq.out.mono ?_; rintro e W2 ⟨rfl, rfl⟩)
          go_ret
          exact ⟨by first | rfl | exact ret_bool (by simp), HK.out⟩
      · have hall : R = true := by
          rw [HR.out]
          refine decide_eq_true (List.ext_getElem HLEN.out fun j h1 h2 => ?_)
          have := HE.out j (by omega)
          simpa [List.getD, h1, h2] using this
        subst hall
        go_wp2
        go_ret
        exact ⟨by first | rfl | exact ret_bool (by simp), HK.out⟩
set_option maxRecDepth 100000 in
set_option maxHeartbeats 2000000 in
theorem sameIn_any {S T S' T' : Nat → Prop} (x y : InD) (sv wv sv' wv' : Value) (w : World) (h : RIn S T w sv wv x) (h' : RIn S' T' w sv' wv' y) :
    Calls Try.prog 40 #[.agg (inCells x sv wv).toArray, .agg (inCells y sv' wv').toArray] w fun r w' => r = .returned (.bool (decide (x = y))) ∧ Keeps w w' := by
  obtain ⟨sa, sc, rfl, _⟩ := h.script.any
  obtain ⟨wa, wc, rfl, _⟩ := h.wit.any
  obtain ⟨sa', sc', rfl, _⟩ := h'.script.any
  obtain ⟨wa', wc', rfl, _⟩ := h'.wit.any
  have HRIN := Lib.hid h; have HRIN' := Lib.hid h'
  have HHL := Lib.hid h.ok.hashLen; have HHL' := Lib.hid h'.ok.hashLen
  have HE1 := Lib.hid (fun W => pt_equal W x.hash y.hash x.index y.index h.ok.hashLen h.ok.hash h.ok.index h'.ok.hashLen h'.ok.hash h'.ok.index)
  clear h h'
  have HFW := Lib.hid (fun W q q' (k1 : Row W q 0 (inCells x (.slice sa x.script.length sc) (.slice wa x.wit.length wc))) (k2 : Row W q' 0 (inCells y (.slice sa' y.script.length sc') (.slice wa' y.wit.length wc'))) => show (W.cell? ⟨q, 33, none⟩ = some (.slice sa x.script.length sc) ∧ W.cell? ⟨q, 34, none⟩ = some (.int .u32 x.seq) ∧ W.cell? ⟨q, 35, none⟩ = some (.slice wa x.wit.length wc) ∧ W.cell? ⟨q', 33, none⟩ = some (.slice sa' y.script.length sc') ∧ W.cell? ⟨q', 34, none⟩ = some (.int .u32 y.seq) ∧ W.cell? ⟨q', 35, none⟩ = some (.slice wa' y.wit.length wc')) ∧ Row W q 0 (ptCells x.hash x.index) ∧ Row W q' 0 (ptCells y.hash y.index) from by
    obtain ⟨_, h1, h2, h3⟩ := at_index k1 HHL.out
    obtain ⟨_, h4, h5, h6⟩ := at_index k2 HHL'.out
    simp only [Nat.zero_add] at h1 h2 h3 h4 h5 h6
    exact ⟨⟨h1, h2, h3, h4, h5, h6⟩, first_pt k1 HHL.out, first_pt k2 HHL'.out⟩)
  generalize inCells x (.slice sa x.script.length sc) (.slice wa x.wit.length wc) = CX at *
  generalize inCells y (.slice sa' y.script.length sc') (.slice wa' y.wit.length wc') = CY at *
  obtain ⟨B, hB⟩ : ∃ b, b = decide (x = y) := ⟨_, rfl⟩
  rw [← hB]
  have HB := Lib.hid hB
  clear hB
  go_enter Try.func40, Try.ntmps40
  go_upto_region 1 with (fail)
  refine wp_rows2 (fun W0 hk hr1 hr2 hs => ?_)
  simp only at hr1 hr2
  obtain ⟨⟨f1, f2, f3, f4, f5, f6⟩, hp1, hp2⟩ := HFW.out _ _ _ hr1 hr2
  have HP1 := Lib.hid hp1; have HP2 := Lib.hid hp2; have HK6 := Lib.hid hk
  have HQ3 := Lib.hid (fun W (hk : Keeps W0 W) => equal_any (HRIN.out.script.keeps (HK6.out.trans hk)) (HRIN'.out.script.keeps (HK6.out.trans hk)))
  have HQ4 := Lib.hid (fun W (hk : Keeps W0 W) => eqfB_any (HRIN.out.wit.keeps (HK6.out.trans hk)) (HRIN'.out.wit.keeps (HK6.out.trans hk)))
  clear hk hr1 hr2 hs hp1 hp2 HFW HRIN HRIN'
  generalize w.heap.size = q at *
  obtain ⟨B1, hB1⟩ : ∃ b, b = decide (x.hash = y.hash ∧ x.index = y.index) := ⟨_, rfl⟩
  obtain ⟨B3, hB3⟩ : ∃ b, b = decide (x.script = y.script) := ⟨_, rfl⟩
  obtain ⟨B4, hB4⟩ : ∃ b, b = decide (x.wit = y.wit) := ⟨_, rfl⟩
  rw [← hB1] at HE1
  rw [← hB3] at HQ3
  rw [← hB4] at HQ4
  have hxy : B = true ↔ (B1 = true ∧ x.seq = y.seq ∧ B3 = true ∧ B4 = true) := by
    rw [HB.out, hB1, hB3, hB4, decide_eq_true_iff, decide_eq_true_iff, decide_eq_true_iff, decide_eq_true_iff, InD.eq_iff]
  have HXY := Lib.hid hxy
  clear hxy hB1 hB3 hB4 HB
  have hbad : (B1 = true ∧ x.seq = y.seq ∧ B3 = true ∧ B4 = true) ∨ (B1 = false) ∨ (B1 = true ∧ ¬ x.seq = y.seq) ∨ (B1 = true ∧ x.seq = y.seq ∧ B3 = false) ∨ (B1 = true ∧ x.seq = y.seq ∧ B3 = true ∧ B4 = false) := by
    cases B1 <;> cases B3 <;> cases B4 <;> simp <;> omega
  rcases hbad with ⟨rfl, hs, rfl, rfl⟩ | rfl | ⟨rfl, hs⟩ | ⟨rfl, hs, rfl⟩ | ⟨rfl, hs, rfl, rfl⟩
  all_goals
    have hr : B = true ∨ B = false := by cases B; exact .inr rfl; exact .inl rfl
    first
      | (have hr2 : B = true := HXY.out.2 ⟨rfl, hs, rfl, rfl⟩)
      | (have hr2 : B = false := by
          cases B
          · rfl
          · obtain ⟨k1, k2, k3, k4⟩ := HXY.out.1 rfl
            first | exact absurd k1 (by decide) | exact absurd k2 hs | exact absurd k3 (by decide) | exact absurd k4 (by decide))
    subst hr2
    clear hr
    try (first | (have z : (x.seq == y.seq) = true := beq_iff_eq.2 hs) | (have z : (x.seq == y.seq) = false := beq_eq_false_iff_ne.2 hs))
    try clear hs
    clear HXY
    go_wp2_with (first | ((with_reducible refine gate_load 42 (.tmp 5) ?_); refine wpList_load_on (by kernel_rfl) 42 (.tmp 5) rfl q 0 rfl _ _ HP1.out Try.underlying42 rfl (sz_pt _ _ HHL.out) ?_) | ((with_reducible refine gate_load 42 (.tmp 7) ?_); refine wpList_load_on (by kernel_rfl) 42 (.tmp 7) rfl (q + 1) 0 rfl _ _ HP2.out Try.underlying42 rfl (sz_pt _ _ HHL'.out) ?_) | ((with_reducible refine gate_bin .eql 42 42 (.tmp 6) (.tmp 8) ?_); refine wpList_eql_at (by kernel_rfl) 42 42 (.tmp 6) (.tmp 8) rfl _ _ rfl rfl _ HE1.out (by kernel_rfl) ?_) | (go_at_call 67; refine (HQ3.out _ (Keeps.refl _)).mono ?_; rintro r7 W7 ⟨rfl, rfl⟩) | (go_at_call 68; refine (HQ4.out _ (Keeps.refl _)).mono ?_; rintro r7 W7 ⟨rfl, hk7⟩; have HK7 := Lib.hid hk7; clear hk7))
    go_ret
    first | exact ⟨rfl, HK6.out⟩ | exact ⟨rfl, HK6.out.trans HK7.out⟩
set_option maxRecDepth 100000 in
set_option maxHeartbeats 2000000 in
theorem sameOut_any {S S' : Nat → Prop} (x y : OutD) (sv sv' : Value) (w : World) (h : RB S w sv x.script) (h' : RB S' w sv' y.script) :
    Calls Try.prog 42 #[.agg (outCells x sv).toArray, .agg (outCells y sv').toArray] w fun r w' => r = .returned (.bool (decide (x = y))) ∧ Keeps w w' := by
  obtain ⟨sa, sc, rfl, _⟩ := h.any
  obtain ⟨sa', sc', rfl, _⟩ := h'.any
  obtain ⟨B, hB⟩ : ∃ b, b = decide (x = y) := ⟨_, rfl⟩
  rw [← hB]
  have hxy : B = true ↔ (x.value = y.value ∧ x.script = y.script) := by rw [hB, decide_eq_true_iff, OutD.eq_iff]
  have HQ := Lib.hid (fun W (hk : Keeps w W) => equal_any (h.keeps hk) (h'.keeps hk))
  clear h h' hB
  have hsp : (¬ x.value = y.value ∧ B = false) ∨ (x.value = y.value ∧ decide (x.script = y.script) = B) := by
    by_cases h1 : x.value = y.value
    · refine .inr ⟨h1, ?_⟩
      by_cases h2 : x.script = y.script
      · rw [decide_eq_true h2]; exact (hxy.2 ⟨h1, h2⟩).symm
      · rw [decide_eq_false h2]
        cases B
        · rfl
        · exact absurd (hxy.1 rfl).2 h2
    · refine .inl ⟨h1, ?_⟩
      cases B
      · rfl
      · exact absurd (hxy.1 rfl).1 h1
  clear hxy
  rcases hsp with ⟨h1, rfl⟩ | ⟨h1, h2⟩
  · have z : (x.value == y.value) = false := beq_eq_false_iff_ne.2 h1
    clear h1 HQ
    go_enter Try.func42, Try.ntmps42
    go_upto_region 1 with (fail)
    refine wp_rows2 (fun W0 hk hr1 hr2 hs => ?_)
    simp only [outCells] at hr1 hr2
    obtain ⟨e1, e2⟩ := at_value hr1
    obtain ⟨e3, e4⟩ := at_value hr2
    have HK := Lib.hid hk
    clear hk hr1 hr2 hs
    go_wp2
    go_ret
    exact ⟨rfl, HK.out⟩
  · have z : (x.value == y.value) = true := beq_iff_eq.2 h1
    rw [h2] at HQ
    clear h1 h2
    go_enter Try.func42, Try.ntmps42
    go_upto_region 1 with (fail)
    refine wp_rows2 (fun W0 hk hr1 hr2 hs => ?_)
    simp only [outCells] at hr1 hr2
    obtain ⟨e1, e2⟩ := at_value hr1
    obtain ⟨e3, e4⟩ := at_value hr2
    have HK := Lib.hid hk
    clear hk hr1 hr2 hs
    go_wp2_with (go_at_call 67; refine (HQ.out _ HK.out).mono ?_; rintro r7 W7 ⟨rfl, rfl⟩)
    go_ret
    exact ⟨rfl, HK.out⟩
set_option maxRecDepth 100000 in
set_option maxHeartbeats 2000000 in
theorem eqfIn_any {S T R S' T' R' : Nat → Prop} {w : World} {v v' : Value} {l l' : List InD} (h : RInsX S T R w v l) (h' : RInsX S' T' R' w v' l') :
    Calls Try.prog 39 #[v, v', .func (.func 40) #[] #[]] w fun e w' => e = .returned (.bool (decide (l = l'))) ∧ Keeps w w' := by
  have H1 := Lib.hid h; have H2 := Lib.hid h'
  obtain ⟨a, c, rfl, hc, hcm, -⟩ := h.any
  obtain ⟨a', c', rfl, hc', hcm', -⟩ := h'.any
  have hsm : l.length * 96 ≤ 140737488355328 := by obtain ⟨_, _, h⟩ := h; exact h.small
  have hsm' : l'.length * 96 ≤ 140737488355328 := by obtain ⟨_, _, h⟩ := h'; exact h.small
  clear h h'
  by_cases hlen : l.length = l'.length
  rotate_left
  · have hne : ¬ l = l' := fun e => hlen (by rw [e])
    have hz : ((l.length : Int) == l'.length) = false := beq_eq_false_iff_ne.2 (by omega)
    rw [decide_eq_false hne]
    go_enter Try.func39, Try.ntmps39
    go_wp2
    go_ret
    exact ⟨by first | rfl | exact ret_bool (by simp), Keeps.refl _⟩
  · obtain ⟨B, hB⟩ : ∃ B : Bool, B = decide (l = l') := ⟨_, rfl⟩
    rw [← hB]
    have HB := Lib.hid hB
    clear hB
    have HLEN := Lib.hid hlen
    have hz : ((l.length : Int) == l'.length) = true := beq_iff_eq.2 (by omega)
    clear hlen
    go_enter Try.func39, Try.ntmps39
    go_upto_region 3 with (fail)
    clear hz
    try (rename (((l.length : Int) != (l'.length : Int)) = false) => hbad; clear hbad)
    go_wp2
    go_loopw [17] (fun c wr => ∃ i : Nat, i ≤ l.length ∧ c = .int .i64 i ∧ Hid (Keeps w wr) ∧ Hid (∀ j, j < i → l[j]? = l'[j]?)) (fun c _ => (l.length - intOf c).toNat)
    case atStart => exact ⟨0, by omega, rfl, Lib.hid (Keeps.refl _), Lib.hid (fun j hj => by omega)⟩
    case round =>
      obtain ⟨i, hi, rfl, HK, HE⟩ := hrel
      by_cases hlt : i < l.length
      · obtain ⟨g, off, sv, wv, x, rfl, hg, hdx, hrow, hrin⟩ := (H1.out.keeps HK.out).at i hlt
        have hlt' : i < l'.length := by rw [← HLEN.out]; exact hlt
        obtain ⟨g', off', sv', wv', y, rfl, hg', hdy, hrow', hrin'⟩ := (H2.out.keeps HK.out).at i hlt'
        obtain ⟨sa, sc, rfl, _⟩ := hrin.script.any
        obtain ⟨wa, wc, rfl, _⟩ := hrin.wit.any
        obtain ⟨sa', sc', rfl, _⟩ := hrin'.script.any
        obtain ⟨wa', wc', rfl, _⟩ := hrin'.wit.any
        have HROW := Lib.hid hrow; have HROW' := Lib.hid hrow'; have HRIN := Lib.hid hrin; have HRIN' := Lib.hid hrin'; have HDX := Lib.hid hdx; have HDY := Lib.hid hdy
        have HHL := Lib.hid hrin.ok.hashLen; have HHL' := Lib.hid hrin'.ok.hashLen
        clear hrow hrow' hrin hrin' hdx hdy
        go_upto_region 6 with (first | ((with_reducible refine gate_load 45 (.tmp 20) ?_); refine wpList_load_at rfl 45 (.tmp 20) rfl g (off + i * 36) rfl _ _ HROW.out Try.underlying45 rfl (sz_in _ _ _ HHL.out) ?_) | ((with_reducible refine gate_store 45 (.tmp 8) (.tmp 21) ?_); refine wpList_store_row rfl 45 (.tmp 8) (.tmp 21) rfl _ 0 rfl zeroIn (inCells x _ _) rfl (Row.new _ _ _ rfl) (by rw [inCells_length _ _ _ HHL.out]; rfl) (sz_in _ _ _ HHL.out) (inCells_one _ _ _ rfl rfl) ?_; intro W5 hr5 hc5; have HR5 := Lib.hid hr5; have HC5 := Lib.hid hc5; clear hr5 hc5))
        have HK5 := Lib.hid (keeps_chg (keeps_alloc (Keeps.refl _) _) HC5.out (Nat.le_refl _))
        clear HC5
        obtain ⟨q, hq⟩ : ∃ q, q = wr.heap.size := ⟨_, rfl⟩
        rw [← hq] at HR5 ⊢
        clear hq
        go_upto_region 7 with (first | ((with_reducible refine gate_load 45 (.tmp 24) ?_); refine wpList_load_at rfl 45 (.tmp 24) rfl g' (off' + i * 36) rfl _ _ (HROW'.out.keeps HK5.out) Try.underlying45 rfl (sz_in _ _ _ HHL'.out) ?_) | ((with_reducible refine gate_store 45 (.tmp 9) (.tmp 25) ?_); refine wpList_store_row rfl 45 (.tmp 9) (.tmp 25) rfl _ 0 rfl zeroIn (inCells y _ _) rfl (Row.new _ _ _ rfl) (by rw [inCells_length _ _ _ HHL'.out]; rfl) (sz_in _ _ _ HHL'.out) (inCells_one _ _ _ rfl rfl) ?_; intro W6 hr6 hc6; have HR6 := Lib.hid hr6; have HC6 := Lib.hid hc6; clear hr6 hc6))
        have hk56 : Keeps W5 W6 := keeps_chg (keeps_alloc (Keeps.refl _) _) HC6.out (Nat.le_refl _)
        have HK6 := Lib.hid (HK5.out.trans hk56)
        have HR5' := Lib.hid (HR5.out.keeps hk56)
        obtain ⟨q', hq'⟩ : ∃ q, q = W5.heap.size := ⟨_, rfl⟩
        rw [← hq'] at HR6 ⊢
        clear hq' hk56 HC6 HROW HROW' HR5 HK5
        have HS := Lib.hid (sameIn_any x y _ _ _ _ W6 (HRIN.out.keeps HK6.out) (HRIN'.out.keeps HK6.out))
        by_cases e : x = y
        · rw [decide_eq_true e] at HS
          have HE2 := Lib.hid e
          clear e HRIN HRIN'
          go_wp2_with (first | ((with_reducible refine gate_load 45 (.tmp 8) ?_); refine wpList_load_at rfl 45 (.tmp 8) rfl q 0 rfl _ _ HR5'.out Try.underlying45 rfl (sz_in _ _ _ HHL.out) ?_) | ((with_reducible refine gate_load 45 (.tmp 9) ?_); refine wpList_load_at rfl 45 (.tmp 9) rfl q' 0 rfl _ _ HR6.out Try.underlying45 rfl (sz_in _ _ _ HHL'.out) ?_) | (go_at_call 40; refine HS.out.mono ?_; rintro r7 W7 ⟨rfl, hk7⟩; have HK7 := Lib.hid hk7; clear hk7))
          go_roundw
          case rel =>
            refine ⟨i + 1, by omega, by go_num, Lib.hid (HK.out.trans (HK6.out.trans HK7.out)), Lib.hid fun j hj => ?_⟩
            by_cases hji : j = i
            · subst hji; rw [HDX.out, HDY.out, HE2.out]
            · exact HE.out j (by omega)
          case measure => simp [intOf]; omega
        · rw [decide_eq_false e] at HS
          have hne : B = false := by
            rw [HB.out]
            refine decide_eq_false (fun h => e ?_)
            have h2 := HDX.out
            rw [h, HDY.out] at h2
            exact (Option.some.inj h2).symm
          subst hne
          clear e HRIN HRIN'
          go_wp2_with (first | ((with_reducible refine gate_load 45 (.tmp 8) ?_); refine wpList_load_at rfl 45 (.tmp 8) rfl q 0 rfl _ _ HR5'.out Try.underlying45 rfl (sz_in _ _ _ HHL.out) ?_) | ((with_reducible refine gate_load 45 (.tmp 9) ?_); refine wpList_load_at rfl 45 (.tmp 9) rfl q' 0 rfl _ _ HR6.out Try.underlying45 rfl (sz_in _ _ _ HHL'.out) ?_) | (go_at_call 40; refine HS.out.mono ?_; rintro r7 W7 ⟨rfl, hk7⟩; have HK7 := Lib.hid hk7; clear hk7))
          go_ret
          exact ⟨by first | rfl | exact ret_bool (by simp), HK.out.trans (HK6.out.trans HK7.out)⟩
      · obtain rfl : i = l.length := by omega
        have hall : B = true := by
          rw [HB.out]
          exact decide_eq_true (list_eq_upto HLEN.out HE.out)
        subst hall
        go_wp2
        go_ret
        exact ⟨by first | rfl | exact ret_bool (by simp), HK.out⟩
set_option maxRecDepth 100000 in
set_option maxHeartbeats 2000000 in
theorem eqfOut_any {S R S' R' : Nat → Prop} {w : World} {v v' : Value} {l l' : List OutD} (h : ROutsX S R w v l) (h' : ROutsX S' R' w v' l') :
    Calls Try.prog 41 #[v, v', .func (.func 42) #[] #[]] w fun e w' => e = .returned (.bool (decide (l = l'))) ∧ Keeps w w' := by
  have H1 := Lib.hid h; have H2 := Lib.hid h'
  obtain ⟨a, c, rfl, hc, hcm, -⟩ := h.any
  obtain ⟨a', c', rfl, hc', hcm', -⟩ := h'.any
  have hsm : l.length * 32 ≤ 140737488355328 := by obtain ⟨_, _, h⟩ := h; exact h.small
  have hsm' : l'.length * 32 ≤ 140737488355328 := by obtain ⟨_, _, h⟩ := h'; exact h.small
  clear h h'
  by_cases hlen : l.length = l'.length
  rotate_left
  · have hne : ¬ l = l' := fun e => hlen (by rw [e])
    have hz : ((l.length : Int) == l'.length) = false := beq_eq_false_iff_ne.2 (by omega)
    rw [decide_eq_false hne]
    go_enter Try.func41, Try.ntmps41
    go_wp2
    go_ret
    exact ⟨by first | rfl | exact ret_bool (by simp), Keeps.refl _⟩
  · obtain ⟨B, hB⟩ : ∃ B : Bool, B = decide (l = l') := ⟨_, rfl⟩
    rw [← hB]
    have HB := Lib.hid hB
    clear hB
    have HLEN := Lib.hid hlen
    have hz : ((l.length : Int) == l'.length) = true := beq_iff_eq.2 (by omega)
    clear hlen
    go_enter Try.func41, Try.ntmps41
    go_upto_region 3 with (fail)
    clear hz
    try (rename (((l.length : Int) != (l'.length : Int)) = false) => hbad; clear hbad)
    go_wp2
    go_loopw [17] (fun c wr => ∃ i : Nat, i ≤ l.length ∧ c = .int .i64 i ∧ Hid (Keeps w wr) ∧ Hid (∀ j, j < i → l[j]? = l'[j]?)) (fun c _ => (l.length - intOf c).toNat)
    case atStart => exact ⟨0, by omega, rfl, Lib.hid (Keeps.refl _), Lib.hid (fun j hj => by omega)⟩
    case round =>
      obtain ⟨i, hi, rfl, HK, HE⟩ := hrel
      by_cases hlt : i < l.length
      · obtain ⟨g, off, sv, x, rfl, hg, hdx, hrow, hrin, -⟩ := (H1.out.keeps HK.out).at i hlt
        have hlt' : i < l'.length := by rw [← HLEN.out]; exact hlt
        obtain ⟨g', off', sv', y, rfl, hg', hdy, hrow', hrin', -⟩ := (H2.out.keeps HK.out).at i hlt'
        obtain ⟨sa, sc, rfl, _⟩ := hrin.any
        obtain ⟨sa', sc', rfl, _⟩ := hrin'.any
        have HROW := Lib.hid hrow; have HROW' := Lib.hid hrow'; have HRIN := Lib.hid hrin; have HRIN' := Lib.hid hrin'; have HDX := Lib.hid hdx; have HDY := Lib.hid hdy
        clear hrow hrow' hrin hrin' hdx hdy
        go_upto_region 6 with (first | ((with_reducible refine gate_load 47 (.tmp 20) ?_); refine wpList_load_at rfl 47 (.tmp 20) rfl g (off + i * 2) rfl _ _ HROW.out Try.underlying47 rfl (sz_out _ _) ?_) | ((with_reducible refine gate_store 47 (.tmp 8) (.tmp 21) ?_); refine wpList_store_row rfl 47 (.tmp 8) (.tmp 21) rfl _ 0 rfl [.int .i64 0, .slice none 0 0] (outCells x _) rfl (Row.new _ _ _ rfl) rfl (sz_out _ _) (outCells_one _ _ rfl) ?_; intro W5 hr5 hc5; have HR5 := Lib.hid hr5; have HC5 := Lib.hid hc5; clear hr5 hc5))
        have HK5 := Lib.hid (keeps_chg (keeps_alloc (Keeps.refl _) _) HC5.out (Nat.le_refl _))
        clear HC5
        obtain ⟨q, hq⟩ : ∃ q, q = wr.heap.size := ⟨_, rfl⟩
        rw [← hq] at HR5 ⊢
        clear hq
        go_upto_region 7 with (first | ((with_reducible refine gate_load 47 (.tmp 24) ?_); refine wpList_load_at rfl 47 (.tmp 24) rfl g' (off' + i * 2) rfl _ _ (HROW'.out.keeps HK5.out) Try.underlying47 rfl (sz_out _ _) ?_) | ((with_reducible refine gate_store 47 (.tmp 9) (.tmp 25) ?_); refine wpList_store_row rfl 47 (.tmp 9) (.tmp 25) rfl _ 0 rfl [.int .i64 0, .slice none 0 0] (outCells y _) rfl (Row.new _ _ _ rfl) rfl (sz_out _ _) (outCells_one _ _ rfl) ?_; intro W6 hr6 hc6; have HR6 := Lib.hid hr6; have HC6 := Lib.hid hc6; clear hr6 hc6))
        have hk56 : Keeps W5 W6 := keeps_chg (keeps_alloc (Keeps.refl _) _) HC6.out (Nat.le_refl _)
        have HK6 := Lib.hid (HK5.out.trans hk56)
        have HR5' := Lib.hid (HR5.out.keeps hk56)
        obtain ⟨q', hq'⟩ : ∃ q, q = W5.heap.size := ⟨_, rfl⟩
        rw [← hq'] at HR6 ⊢
        clear hq' hk56 HC6 HROW HROW' HR5 HK5
        have HS := Lib.hid (sameOut_any x y _ _ W6 (HRIN.out.keeps HK6.out) (HRIN'.out.keeps HK6.out))
        by_cases e : x = y
        · rw [decide_eq_true e] at HS
          have HE2 := Lib.hid e
          clear e HRIN HRIN'
          go_wp2_with (first | ((with_reducible refine gate_load 47 (.tmp 8) ?_); refine wpList_load_at rfl 47 (.tmp 8) rfl q 0 rfl _ _ HR5'.out Try.underlying47 rfl (sz_out _ _) ?_) | ((with_reducible refine gate_load 47 (.tmp 9) ?_); refine wpList_load_at rfl 47 (.tmp 9) rfl q' 0 rfl _ _ HR6.out Try.underlying47 rfl (sz_out _ _) ?_) | (go_at_call 42; refine HS.out.mono ?_; rintro r7 W7 ⟨rfl, hk7⟩; have HK7 := Lib.hid hk7; clear hk7))
          go_roundw
          case rel =>
            refine ⟨i + 1, by omega, by go_num, Lib.hid (HK.out.trans (HK6.out.trans HK7.out)), Lib.hid fun j hj => ?_⟩
            by_cases hji : j = i
            · subst hji; rw [HDX.out, HDY.out, HE2.out]
            · exact HE.out j (by omega)
          case measure => simp [intOf]; omega
        · rw [decide_eq_false e] at HS
          have hne : B = false := by
            rw [HB.out]
            refine decide_eq_false (fun h => e ?_)
            have h2 := HDX.out
            rw [h, HDY.out] at h2
            exact (Option.some.inj h2).symm
          subst hne
          clear e HRIN HRIN'
          go_wp2_with (first | ((with_reducible refine gate_load 47 (.tmp 8) ?_); refine wpList_load_at rfl 47 (.tmp 8) rfl q 0 rfl _ _ HR5'.out Try.underlying47 rfl (sz_out _ _) ?_) | ((with_reducible refine gate_load 47 (.tmp 9) ?_); refine wpList_load_at rfl 47 (.tmp 9) rfl q' 0 rfl _ _ HR6.out Try.underlying47 rfl (sz_out _ _) ?_) | (go_at_call 42; refine HS.out.mono ?_; rintro r7 W7 ⟨rfl, hk7⟩; have HK7 := Lib.hid hk7; clear hk7))
          go_ret
          exact ⟨by first | rfl | exact ret_bool (by simp), HK.out.trans (HK6.out.trans HK7.out)⟩
      · obtain rfl : i = l.length := by omega
        have hall : B = true := by
          rw [HB.out]
          exact decide_eq_true (list_eq_upto HLEN.out HE.out)
        subst hall
        go_wp2
        go_ret
        exact ⟨by first | rfl | exact ret_bool (by simp), HK.out⟩
set_option maxRecDepth 100000 in
set_option maxHeartbeats 2000000 in
theorem same_any {S T R S' T' R' : Nat → Prop} (d e : TxD) (iv ov iv' ov' : Value) (w : World) (h : RTx S T R w iv ov d) (h' : RTx S' T' R' w iv' ov' e) :
    Calls Try.prog 12 #[.agg #[.int .i32 d.ver, iv, ov, .int .u32 d.lock], .agg #[.int .i32 e.ver, iv', ov', .int .u32 e.lock]] w fun r w' => r = .returned (.bool (decide (d = e))) ∧ Keeps w w' := by
  have HQ3 := Lib.hid (fun W (hk : Keeps w W) => eqfIn_any (h.ins.keeps hk) (h'.ins.keeps hk))
  have HQ4 := Lib.hid (fun W (hk : Keeps w W) => eqfOut_any (h.outs.keeps hk) (h'.outs.keeps hk))
  obtain ⟨ia, ic, rfl, -⟩ := h.ins.any
  obtain ⟨oa, oc, rfl, -⟩ := h.outs.any
  obtain ⟨ia', ic', rfl, -⟩ := h'.ins.any
  obtain ⟨oa', oc', rfl, -⟩ := h'.outs.any
  clear h h'
  obtain ⟨B, hB⟩ : ∃ b, b = decide (d = e) := ⟨_, rfl⟩
  rw [← hB]
  obtain ⟨B3, hB3⟩ : ∃ b, b = decide (d.ins = e.ins) := ⟨_, rfl⟩
  obtain ⟨B4, hB4⟩ : ∃ b, b = decide (d.outs = e.outs) := ⟨_, rfl⟩
  rw [← hB3] at HQ3
  rw [← hB4] at HQ4
  have hxy : B = true ↔ (d.ver = e.ver ∧ d.lock = e.lock ∧ B3 = true ∧ B4 = true) := by
    rw [hB, hB3, hB4, decide_eq_true_iff, decide_eq_true_iff, decide_eq_true_iff, TxD.eq_iff]
  have HXY := Lib.hid hxy
  clear hxy hB hB3 hB4
  have hbad : (d.ver = e.ver ∧ d.lock = e.lock ∧ B3 = true ∧ B4 = true) ∨ (¬ d.ver = e.ver) ∨ (d.ver = e.ver ∧ ¬ d.lock = e.lock) ∨ (d.ver = e.ver ∧ d.lock = e.lock ∧ B3 = false) ∨ (d.ver = e.ver ∧ d.lock = e.lock ∧ B3 = true ∧ B4 = false) := by
    cases B3 <;> cases B4 <;> simp <;> omega
  rcases hbad with ⟨h1, hs, rfl, rfl⟩ | h1 | ⟨h1, hs⟩ | ⟨h1, hs, rfl⟩ | ⟨h1, hs, rfl, rfl⟩
  all_goals
    first
      | (have hr2 : B = true := HXY.out.2 ⟨h1, hs, rfl, rfl⟩)
      | (have hr2 : B = false := by
          cases B
          · rfl
          · obtain ⟨k1, k2, k3, k4⟩ := HXY.out.1 rfl
            first | exact absurd k1 h1 | exact absurd k2 hs | exact absurd k3 (by decide) | exact absurd k4 (by decide))
    subst hr2
    first | (have z1 : (d.ver == e.ver) = true := beq_iff_eq.2 h1) | (have z1 : (d.ver == e.ver) = false := beq_eq_false_iff_ne.2 h1)
    try (first | (have z : (d.lock == e.lock) = true := beq_iff_eq.2 hs) | (have z : (d.lock == e.lock) = false := beq_eq_false_iff_ne.2 hs))
    clear h1
    try clear hs
    clear HXY
    go_enter Try.func12, Try.ntmps12
    go_upto_region 1 with (fail)
    refine wp_rows2 (fun W0 hk hr1 hr2 hs => ?_)
    simp only at hr1 hr2
    obtain ⟨b0, b1, b2, b3⟩ := hr1.cell4
    obtain ⟨c0, c1, c2, c3⟩ := hr2.cell4
    have HK := Lib.hid hk; have HR1 := Lib.hid hr1; have HR2 := Lib.hid hr2
    clear hk hr1 hr2 hs
    go_wp2_with (first | (go_at_call 39; refine (HQ3.out _ HK.out).mono ?_; rintro r7 W7 ⟨rfl, hk7⟩; obtain ⟨d0, d1, d2, d3⟩ := (HR1.out.keeps hk7).cell4; obtain ⟨e0, e1, e2, e3⟩ := (HR2.out.keeps hk7).cell4; have HK7 := Lib.hid hk7; clear hk7) | (go_at_call 41; refine (HQ4.out _ (HK.out.trans HK7.out)).mono ?_; rintro r8 W8 ⟨rfl, hk8⟩; have HK8 := Lib.hid hk8; clear hk8))
    go_ret
    first | exact ⟨rfl, HK.out⟩ | exact ⟨rfl, HK.out.trans HK7.out⟩ | exact ⟨rfl, HK.out.trans (HK7.out.trans HK8.out)⟩
end Go.Proofs.Ytcodpdpeklammaa
