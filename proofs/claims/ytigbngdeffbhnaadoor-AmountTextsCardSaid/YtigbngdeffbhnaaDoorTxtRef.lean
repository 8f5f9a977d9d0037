/- The reference's Parse. -/
import Derived.Test.YtigbngdeffbhnaaDoorTxtParse
namespace Go.Proofs.YtigbngdeffbhnaaDoor
set_option linter.unusedVariables false
set_option linter.unusedSimpArgs false
open Go Go.RowKit

def fLen (n k : Nat) : Nat := n - (k + 1)
set_option maxRecDepth 100000 in
set_option maxHeartbeats 8000000 in
/-- the walk, over letters -/
theorem rparse_walk (s : ByteArray) (hmax : s.size ≤ 281474976710656) (k : Nat) (cap nn : Nat → Nat) (V E : Int) (hk : k ≤ s.size)
    (hdig : ∀ j, j < k → 48 ≤ bAt s j ∧ bAt s j ≤ 57) (hend : k < s.size → bAt s k < 48 ∨ 57 < bAt s k)
    (hc0 : cap 0 = 0) (hcs : ∀ j, j < k → (cap j : Int) ≤ 2100000000000000 → (cap (j + 1) : Int) = 10 * cap j + (bAt s j - 48)) (hct : ∀ j, j < k → ¬ (cap j : Int) ≤ 2100000000000000 → (cap (j + 1) : Int) = cap j) (hcb : ∀ j, j ≤ k → cap j < 21000000000000011)
    (hform1 : k = 0 ∨ (1 < k ∧ bAt s 0 = 48) → V = 0 ∧ E = 3) (hform2 : k < s.size → (bAt s k ≠ 46 ∨ k + 1 = s.size ∨ 9 < s.size - k) → V = 0 ∧ E = 3)
    (hform3 : ∀ m, k + 1 + m < s.size → (bAt s (k + 1 + m) < 48 ∨ 57 < bAt s (k + 1 + m)) → V = 0 ∧ E = 3)
    (hn0 : nn 0 = cap k) (hns : ∀ m, k + 1 + m < s.size → 48 ≤ bAt s (k + 1 + m) → (nn (m + 1) : Int) = 10 * nn m + (bAt s (k + 1 + m) - 48))
    (hnb : ¬ 21000000 < (cap k : Int) → ∀ m, m ≤ 8 → (∀ q, q < m → 48 ≤ bAt s (k + 1 + q) ∧ bAt s (k + 1 + q) ≤ 57) → m ≤ fLen s.size k → (nn m : Int) ≤ 2100000100000000)
    (hgreat : ¬ (k = 0 ∨ (1 < k ∧ bAt s 0 = 48)) → (k < s.size → ¬ (bAt s k ≠ 46 ∨ k + 1 = s.size ∨ 9 < s.size - k)) → (∀ m, k + 1 + m < s.size → 48 ≤ bAt s (k + 1 + m) ∧ bAt s (k + 1 + m) ≤ 57) → 21000000 < (cap k : Int) → V = 0 ∧ E = 6)
    (xx : Nat → Nat) (hx0 : xx 0 = nn (fLen s.size k)) (hxs : ∀ q, (xx (q + 1) : Int) = 10 * xx q) (hxb : ¬ 21000000 < (cap k : Int) → (∀ m, k + 1 + m < s.size → 48 ≤ bAt s (k + 1 + m) ∧ bAt s (k + 1 + m) ≤ 57) → ∀ q, fLen s.size k + q ≤ 8 → (xx q : Int) ≤ 2100000100000000)
    (hfin : ¬ (k = 0 ∨ (1 < k ∧ bAt s 0 = 48)) → (k < s.size → ¬ (bAt s k ≠ 46 ∨ k + 1 = s.size ∨ 9 < s.size - k)) → (∀ m, k + 1 + m < s.size → 48 ≤ bAt s (k + 1 + m) ∧ bAt s (k + 1 + m) ≤ 57) → ¬ 21000000 < (cap k : Int) → V = vV (xx (8 - fLen s.size k)) ∧ E = vE (xx (8 - fLen s.size k)))
    (w : World) : Calls Tryd.prog 9 #[.string s] w fun e w' => e = .returned (.tuple #[.int .i64 V, .int .i64 E]) ∧ w = w' := by
  have HDIG := Lib.hid hdig; have HEND := Lib.hid hend; have HCS := Lib.hid hcs; have HCT := Lib.hid hct; have HCB := Lib.hid hcb; have HF1 := Lib.hid hform1; have HF2 := Lib.hid hform2; have HF3 := Lib.hid hform3; have HN0 := Lib.hid hn0; have HNS := Lib.hid hns; have HG := Lib.hid hgreat; have HFI := Lib.hid hfin; have HNB := Lib.hid hnb; have HX0 := Lib.hid hx0; have HXS := Lib.hid hxs; have HXB := Lib.hid hxb
  have HC0 := Lib.hid hc0
  clear hdig hend hcs hct hcb hform1 hform2 hform3 hn0 hns hgreat hfin hc0 hnb hx0 hxs hxb
  go_enter Tryd.func9, Tryd.ntmps9
  go_wp2
  go_loopw [4, 5] (fun a c wr => ∃ j : Nat, j ≤ k ∧ c = .int .i64 j ∧ a = .int .i64 (cap j) ∧ w = wr) (fun _ c _ => (s.size - intOf c).toNat)
  case atStart => exact ⟨0, by omega, rfl, by rw [HC0.out]; rfl, rfl⟩
  case round =>
    obtain ⟨j, hj, rfl, rfl, rfl⟩ := hrel
    by_cases hlt : j < k
    · have hx := fun W => run_index_string W s j (by omega)
      obtain ⟨d0, d1⟩ := HDIG.out j hlt
      have hcb := HCB.out j hj
      have x0 : 0 ≤ (cap j : Int) := by omega
      by_cases hle : (cap j : Int) ≤ 2100000000000000
      · have hcs := HCS.out j hlt hle
        generalize bAt s j = c at *
        generalize (cap j : Int) = x at *
        have HE := Lib.hid hcs
        clear hcs
        go_wp2
        exact ⟨⟨j + 1, by omega, by go_num, by rw [HE.out], trivial⟩, by simp [intOf]; omega⟩
      · have hct := HCT.out j hlt (by omega)
        generalize bAt s j = c at *
        generalize (cap j : Int) = x at *
        have HE := Lib.hid hct
        clear hct
        go_wp2
        exact ⟨⟨j + 1, by omega, by go_num, by rw [HE.out], trivial⟩, by simp [intOf]; omega⟩
    · obtain rfl : j = k := by omega
      clear HCS HCT HCB HDIG HC0
      have hend := HEND.out
      by_cases f1 : j = 0 ∨ (1 < j ∧ bAt s 0 = 48)
      · -- no digit, or a nought ahead
        obtain ⟨rfl, rfl⟩ := HF1.out f1
        clear HF1 HF2 HF3 HN0 HNS HG HFI HNB HX0 HXS HXB
        have hx0 : 0 < s.size → ∀ W, (Instr.index 9 (.string s) (.int .i64 0)).run Tryd.prog W = .ok (.int .u8 (bAt s 0)) W := fun h W => run_index_string W s 0 h
        have hxj : j < s.size → ∀ W, (Instr.index 9 (.string s) (.int .i64 (j : Int))).run Tryd.prog W = .ok (.int .u8 (bAt s j)) W := fun h W => run_index_string W s j h
        by_cases hjn : j < s.size
        · have hend := hend hjn
          have hxj := hxj hjn
          have hx0 := hx0 (by omega)
          rcases f1 with rfl | ⟨f1, f2⟩
          · clear hx0
            rcases hend with hend | hend
            · go_wp2
              go_ret2
              exact ⟨rfl, rfl⟩
            · go_wp2
              go_ret2
              exact ⟨rfl, rfl⟩
          · rw [f2] at hx0
            rcases hend with hend | hend
            · go_wp2
              go_ret2
              exact ⟨rfl, rfl⟩
            · go_wp2
              go_ret2
              exact ⟨rfl, rfl⟩
        · obtain rfl : j = s.size := by omega
          clear hend hxj
          rcases f1 with f1 | ⟨f1, f2⟩
          · clear hx0
            go_wp2
            go_ret2
            exact ⟨rfl, rfl⟩
          · have hx0 := hx0 (by omega)
            rw [f2] at hx0
            have n0 : ((s.size : Int) == 0) = false := by rw [beq_eq_false_iff_ne]; omega
            go_wp2
            go_ret2
            exact ⟨rfl, rfl⟩
      · have f3 : j = 1 ∨ (1 < j ∧ bAt s 0 ≠ 48) := by
          by_cases h : j = 1
          · exact .inl h
          · exact .inr ⟨by omega, fun h2 => f1 (.inr ⟨by omega, h2⟩)⟩
        have n0 : ((j : Int) == 0) = false := by rw [beq_eq_false_iff_ne]; omega
        have hx0 : ∀ W, (Instr.index 9 (.string s) (.int .i64 0)).run Tryd.prog W = .ok (.int .u8 (bAt s 0)) W := fun W => run_index_string W s 0 (by omega)
        clear HF1
        by_cases hkn : j < s.size
        · have hend := hend hkn
          have hxj := fun W => run_index_string W s j hkn
          by_cases g1 : bAt s j = 46
          · by_cases g2 : j + 1 = s.size
            · rw [g1] at hxj
              have g2b : ((j : Int) + 1 == (s.size : Int)) = true := by rw [beq_iff_eq]; omega
              clear hend
              rcases f3 with f3 | ⟨f3, f4⟩
              · have f3b : ¬ ((1 : Int) < (j : Int)) := by omega
                clear hx0 f3
                obtain ⟨rfl, rfl⟩ := HF2.out hkn (.inr (.inl g2))
                clear HF2 HF3 HN0 HNS HG HFI HNB HX0 HXS HXB
                go_wp2
                go_ret2
                exact ⟨rfl, rfl⟩
              · generalize hb0 : bAt s 0 = b0 at hx0 f4
                clear hb0
                obtain ⟨rfl, rfl⟩ := HF2.out hkn (.inr (.inl g2))
                clear HF2 HF3 HN0 HNS HG HFI HNB HX0 HXS HXB
                go_wp2
                go_ret2
                exact ⟨rfl, rfl⟩
            · have g2b : ((j : Int) + 1 == (s.size : Int)) = false := by rw [beq_eq_false_iff_ne]; omega
              by_cases g3 : 9 < s.size - j
              · rw [g1] at hxj
                have g3b : (9 : Int) < (s.size : Int) - (j : Int) := by omega
                clear hend
                rcases f3 with f3 | ⟨f3, f4⟩
                · have f3b : ¬ ((1 : Int) < (j : Int)) := by omega
                  clear hx0 f3
                  obtain ⟨rfl, rfl⟩ := HF2.out hkn (.inr (.inr g3))
                  clear HF2 HF3 HN0 HNS HG HFI HNB HX0 HXS HXB
                  go_wp2
                  go_ret2
                  exact ⟨rfl, rfl⟩
                · generalize hb0 : bAt s 0 = b0 at hx0 f4
                  clear hb0
                  obtain ⟨rfl, rfl⟩ := HF2.out hkn (.inr (.inr g3))
                  clear HF2 HF3 HN0 HNS HG HFI HNB HX0 HXS HXB
                  go_wp2
                  go_ret2
                  exact ⟨rfl, rfl⟩
              · have f2 : j < s.size → ¬ (bAt s j ≠ 46 ∨ j + 1 = s.size ∨ 9 < s.size - j) := fun _ h => by
                  rcases h with h | h | h
                  · exact h g1
                  · exact g2 h
                  · exact g3 h
                rw [g1] at hxj
                have g3b : ¬ (9 : Int) < (s.size : Int) - (j : Int) := by omega
                clear hend HF2
                have HFF := Lib.hid f2
                clear f2
                rcases f3 with f3 | ⟨f3, f4⟩
                · have f3b : ¬ ((1 : Int) < (j : Int)) := by omega
                  clear hx0 f3
                  by_cases hg : 21000000 < (cap j : Int)
                  · have x0 : 0 ≤ (cap j : Int) := by omega
                    go_wp2
                    go_loopw [4, 6, 8] (fun a l c wr => ∃ m i : Nat, i = j + 1 + m ∧ (m = 0 ∨ i ≤ s.size) ∧ c = .int .i64 (i : Int) ∧ a = .int .i64 (cap j) ∧ l = .int .i64 (8 - (m : Int)) ∧ (∀ q, q < m → 48 ≤ bAt s (j + 1 + q) ∧ bAt s (j + 1 + q) ≤ 57) ∧ w = wr) (fun _ _ c _ => (s.size - intOf c).toNat)
                    case atStart => exact ⟨0, j + 1, by omega, by omega, by go_num, rfl, rfl, fun q hq => absurd hq (by omega), rfl⟩
                    case round =>
                      obtain ⟨m, i, hi, hm, rfl, rfl, rfl, hd, rfl⟩ := hrel
                      have HDD := Lib.hid hd
                      clear hd
                      by_cases hin : i < s.size
                      · have hx := fun W => run_index_string W s i hin
                        have hfo := HF3.out m (by omega)
                        have hdd : 48 ≤ bAt s (j + 1 + m) → bAt s (j + 1 + m) ≤ 57 → ∀ q, q < m + 1 → 48 ≤ bAt s (j + 1 + q) ∧ bAt s (j + 1 + q) ≤ 57 := fun h1 h2 q hq => by
                          by_cases he : q = m
                          · subst he; exact ⟨h1, h2⟩
                          · exact HDD.out q (by omega)
                        rw [← hi] at hfo hdd
                        have m1 : (m : Int) ≤ 281474976710656 := by omega
                        have HI := Lib.hid hi
                        have HDE := Lib.hid hdd
                        clear hdd hi
                        generalize bAt s i = c at *
                        by_cases l1 : c < 48
                        · obtain ⟨rfl, rfl⟩ := hfo (.inl l1)
                          clear HF3 HDE
                          go_wp2
                          go_ret2
                          exact ⟨rfl, rfl⟩
                        · by_cases l2 : c > 57
                          · obtain ⟨rfl, rfl⟩ := hfo (.inr l2)
                            clear HF3 HDE
                            go_wp2
                            go_ret2
                            exact ⟨rfl, rfl⟩
                          · have HD2 := Lib.hid (HDE.out (by omega) (by omega))
                            clear HDE hfo
                            go_wp2
                            exact ⟨⟨m + 1, i + 1, by have := HI.out; omega, by omega, by go_num, rfl, by go_num, HD2.out, trivial⟩, by simp [intOf]; omega⟩
                      · skip
                        obtain ⟨rfl, rfl⟩ := HG.out f1 HFF.out (fun q hq => HDD.out q (by omega)) hg
                        have HI := Lib.hid hi
                        clear hi
                        clear HF3 HN0 HNS HG HFI HNB HX0 HXS HXB HDD
                        generalize hcp : (cap j : Int) = x at *
                        clear hcp
                        go_wp2
                        go_loopw [4, 6] (fun a l wr => a = .int .i64 x ∧ l = .int .i64 (8 - (m : Int)) ∧ w = wr) (fun _ _ _ => 0)
                        case atStart => exact ⟨rfl, rfl, rfl⟩
                        case round =>
                          obtain ⟨rfl, rfl, rfl⟩ := hrel
                          by_cases hl : (0 : Int) < 8 - (m : Int)
                          · go_wp2
                            go_ret2
                            exact ⟨rfl, rfl⟩
                          · go_wp2
                            go_ret2
                            exact ⟨rfl, rfl⟩
                  · have x0 : 0 ≤ (cap j : Int) := by omega
                    go_wp2
                    go_loopw [4, 6, 8] (fun a l c wr => ∃ m i : Nat, i = j + 1 + m ∧ (m = 0 ∨ i ≤ s.size) ∧ c = .int .i64 (i : Int) ∧ a = .int .i64 (nn m) ∧ l = .int .i64 (8 - (m : Int)) ∧ (∀ q, q < m → 48 ≤ bAt s (j + 1 + q) ∧ bAt s (j + 1 + q) ≤ 57) ∧ w = wr) (fun _ _ c _ => (s.size - intOf c).toNat)
                    case atStart => exact ⟨0, j + 1, by omega, by omega, by go_num, by rw [HN0.out], rfl, fun q hq => absurd hq (by omega), rfl⟩
                    case round =>
                      obtain ⟨m, i, hi, hm, rfl, rfl, rfl, hd, rfl⟩ := hrel
                      have HDD := Lib.hid hd
                      clear hd
                      by_cases hin : i < s.size
                      · have hx := fun W => run_index_string W s i hin
                        have hfo := HF3.out m (by omega)
                        have hdd : 48 ≤ bAt s (j + 1 + m) → bAt s (j + 1 + m) ≤ 57 → ∀ q, q < m + 1 → 48 ≤ bAt s (j + 1 + q) ∧ bAt s (j + 1 + q) ≤ 57 := fun h1 h2 q hq => by
                          by_cases he : q = m
                          · subst he; exact ⟨h1, h2⟩
                          · exact HDD.out q (by omega)
                        have hns := HNS.out m (by omega)
                        have  hnb := HNB.out hg m (by omega) HDD.out (by unfold fLen; omega)
                        rw [← hi] at hfo hdd hns
                        have m1 : (m : Int) ≤ 281474976710656 := by omega
                        have HI := Lib.hid hi
                        have HDE := Lib.hid hdd
                        clear hdd hi
                        generalize bAt s i = c at *
                        by_cases l1 : c < 48
                        · obtain ⟨rfl, rfl⟩ := hfo (.inl l1)
                          clear HF3 hns  hnb HDE
                          go_wp2
                          go_ret2
                          exact ⟨rfl, rfl⟩
                        · by_cases l2 : c > 57
                          · obtain ⟨rfl, rfl⟩ := hfo (.inr l2)
                            clear HF3 hns  hnb HDE
                            go_wp2
                            go_ret2
                            exact ⟨rfl, rfl⟩
                          · have HD2 := Lib.hid (HDE.out (by omega) (by omega))
                            clear HDE hfo
                            have hns := hns (by omega)
                            have n1 : 0 ≤ (nn m : Int) := by omega
                            generalize (nn m : Int) = y at *
                            have HNN := Lib.hid hns
                            clear hns
                            go_wp2
                            exact ⟨⟨m + 1, i + 1, by have := HI.out; omega, by omega, by go_num, by rw [HNN.out], by go_num, HD2.out, trivial⟩, by simp [intOf]; omega⟩
                      · skip
                        have hm2 : m = fLen s.size j := by unfold fLen; omega
                        have hd2 : ∀ q, j + 1 + q < s.size → 48 ≤ bAt s (j + 1 + q) ∧ bAt s (j + 1 + q) ≤ 57 := fun q hq => HDD.out q (by omega)
                        have hve := HFI.out f1 HFF.out hd2 hg
                        have hm9 : m = 0 ∨ j + 1 + m ≤ s.size := by omega
                        have hxb := HXB.out hg hd2
                        have hx0 := HX0.out
                        rw [← hm2] at hxb hx0 hve
                        have HVE := Lib.hid hve
                        have HB := Lib.hid hxb; have HX := Lib.hid hx0; have HS := Lib.hid HXS.out
                        have hm8 : m ≤ 8 := by omega
                        have HI := Lib.hid hi
                        clear hi
                        clear HF3 HN0 HNS HG HFI HNB HX0 HXS HXB HDD hd2 hxb hx0 hm2 hve
                        go_wp2
                        go_loopw [4, 6] (fun a l wr => ∃ q r : Nat, m + q + r = 8 ∧ l = .int .i64 (r : Int) ∧ a = .int .i64 (xx q) ∧ w = wr) (fun _ l _ => (intOf l).toNat)
                        case atStart => exact ⟨0, 8 - m, by omega, by congr 1; omega, by rw [HX.out], rfl⟩
                        case round =>
                          obtain ⟨q, r, hq, rfl, rfl, rfl⟩ := hrel
                          have hb := HB.out q (by omega)
                          have x1 : 0 ≤ (xx q : Int) := by omega
                          have HQ := Lib.hid hq
                          clear hq
                          have r1 : (r : Int) ≤ 8 := by have := HQ.out; omega
                          by_cases hl : 0 < r
                          · have hs := HS.out q
                            generalize (xx q : Int) = y at *
                            have HSS := Lib.hid hs
                            clear hs
                            go_wp2
                            exact ⟨⟨q + 1, r - 1, by have := HQ.out; omega, by congr 1; omega, by rw [HSS.out], trivial⟩, by simp [intOf]; omega⟩
                          · obtain rfl : r = 0 := by omega
                            have hq2 : q = 8 - m := by have := HQ.out; omega
                            rw [← hq2] at HVE
                            clear HB HS hq2
                            generalize (xx q : Int) = y at *
                            by_cases hv : y ≤ 2100000000000000
                            · have hvb : validB y = true := validB_true x1 hv
                              have HV := Lib.hid (show vV y = y ∧ vE y = 0 by simp [vV, vE, hvb])
                              clear hvb
                              go_wp2
                              go_ret2
                              exact ⟨by rw [HVE.out.1, HVE.out.2, HV.out.1, HV.out.2]; rfl, rfl⟩
                            · have HV := Lib.hid (valL_neg y (by omega))
                              go_wp2
                              go_ret2
                              exact ⟨by rw [HVE.out.1, HVE.out.2, HV.out.1, HV.out.2]; rfl, rfl⟩
                · generalize hb0 : bAt s 0 = b0 at hx0 f4
                  clear hb0
                  by_cases hg : 21000000 < (cap j : Int)
                  · have x0 : 0 ≤ (cap j : Int) := by omega
                    go_wp2
                    go_loopw [4, 6, 8] (fun a l c wr => ∃ m i : Nat, i = j + 1 + m ∧ (m = 0 ∨ i ≤ s.size) ∧ c = .int .i64 (i : Int) ∧ a = .int .i64 (cap j) ∧ l = .int .i64 (8 - (m : Int)) ∧ (∀ q, q < m → 48 ≤ bAt s (j + 1 + q) ∧ bAt s (j + 1 + q) ≤ 57) ∧ w = wr) (fun _ _ c _ => (s.size - intOf c).toNat)
                    case atStart => exact ⟨0, j + 1, by omega, by omega, by go_num, rfl, rfl, fun q hq => absurd hq (by omega), rfl⟩
                    case round =>
                      obtain ⟨m, i, hi, hm, rfl, rfl, rfl, hd, rfl⟩ := hrel
                      have HDD := Lib.hid hd
                      clear hd
                      by_cases hin : i < s.size
                      · have hx := fun W => run_index_string W s i hin
                        have hfo := HF3.out m (by omega)
                        have hdd : 48 ≤ bAt s (j + 1 + m) → bAt s (j + 1 + m) ≤ 57 → ∀ q, q < m + 1 → 48 ≤ bAt s (j + 1 + q) ∧ bAt s (j + 1 + q) ≤ 57 := fun h1 h2 q hq => by
                          by_cases he : q = m
                          · subst he; exact ⟨h1, h2⟩
                          · exact HDD.out q (by omega)
                        rw [← hi] at hfo hdd
                        have m1 : (m : Int) ≤ 281474976710656 := by omega
                        have HI := Lib.hid hi
                        have HDE := Lib.hid hdd
                        clear hdd hi
                        generalize bAt s i = c at *
                        by_cases l1 : c < 48
                        · obtain ⟨rfl, rfl⟩ := hfo (.inl l1)
                          clear HF3 HDE
                          go_wp2
                          go_ret2
                          exact ⟨rfl, rfl⟩
                        · by_cases l2 : c > 57
                          · obtain ⟨rfl, rfl⟩ := hfo (.inr l2)
                            clear HF3 HDE
                            go_wp2
                            go_ret2
                            exact ⟨rfl, rfl⟩
                          · have HD2 := Lib.hid (HDE.out (by omega) (by omega))
                            clear HDE hfo
                            go_wp2
                            exact ⟨⟨m + 1, i + 1, by have := HI.out; omega, by omega, by go_num, rfl, by go_num, HD2.out, trivial⟩, by simp [intOf]; omega⟩
                      · skip
                        obtain ⟨rfl, rfl⟩ := HG.out f1 HFF.out (fun q hq => HDD.out q (by omega)) hg
                        have HI := Lib.hid hi
                        clear hi
                        clear HF3 HN0 HNS HG HFI HNB HX0 HXS HXB HDD
                        generalize hcp : (cap j : Int) = x at *
                        clear hcp
                        go_wp2
                        go_loopw [4, 6] (fun a l wr => a = .int .i64 x ∧ l = .int .i64 (8 - (m : Int)) ∧ w = wr) (fun _ _ _ => 0)
                        case atStart => exact ⟨rfl, rfl, rfl⟩
                        case round =>
                          obtain ⟨rfl, rfl, rfl⟩ := hrel
                          by_cases hl : (0 : Int) < 8 - (m : Int)
                          · go_wp2
                            go_ret2
                            exact ⟨rfl, rfl⟩
                          · go_wp2
                            go_ret2
                            exact ⟨rfl, rfl⟩
                  · have x0 : 0 ≤ (cap j : Int) := by omega
                    go_wp2
                    go_loopw [4, 6, 8] (fun a l c wr => ∃ m i : Nat, i = j + 1 + m ∧ (m = 0 ∨ i ≤ s.size) ∧ c = .int .i64 (i : Int) ∧ a = .int .i64 (nn m) ∧ l = .int .i64 (8 - (m : Int)) ∧ (∀ q, q < m → 48 ≤ bAt s (j + 1 + q) ∧ bAt s (j + 1 + q) ≤ 57) ∧ w = wr) (fun _ _ c _ => (s.size - intOf c).toNat)
                    case atStart => exact ⟨0, j + 1, by omega, by omega, by go_num, by rw [HN0.out], rfl, fun q hq => absurd hq (by omega), rfl⟩
                    case round =>
                      obtain ⟨m, i, hi, hm, rfl, rfl, rfl, hd, rfl⟩ := hrel
                      have HDD := Lib.hid hd
                      clear hd
                      by_cases hin : i < s.size
                      · have hx := fun W => run_index_string W s i hin
                        have hfo := HF3.out m (by omega)
                        have hdd : 48 ≤ bAt s (j + 1 + m) → bAt s (j + 1 + m) ≤ 57 → ∀ q, q < m + 1 → 48 ≤ bAt s (j + 1 + q) ∧ bAt s (j + 1 + q) ≤ 57 := fun h1 h2 q hq => by
                          by_cases he : q = m
                          · subst he; exact ⟨h1, h2⟩
                          · exact HDD.out q (by omega)
                        have hns := HNS.out m (by omega)
                        have  hnb := HNB.out hg m (by omega) HDD.out (by unfold fLen; omega)
                        rw [← hi] at hfo hdd hns
                        have m1 : (m : Int) ≤ 281474976710656 := by omega
                        have HI := Lib.hid hi
                        have HDE := Lib.hid hdd
                        clear hdd hi
                        generalize bAt s i = c at *
                        by_cases l1 : c < 48
                        · obtain ⟨rfl, rfl⟩ := hfo (.inl l1)
                          clear HF3 hns  hnb HDE
                          go_wp2
                          go_ret2
                          exact ⟨rfl, rfl⟩
                        · by_cases l2 : c > 57
                          · obtain ⟨rfl, rfl⟩ := hfo (.inr l2)
                            clear HF3 hns  hnb HDE
                            go_wp2
                            go_ret2
                            exact ⟨rfl, rfl⟩
                          · have HD2 := Lib.hid (HDE.out (by omega) (by omega))
                            clear HDE hfo
                            have hns := hns (by omega)
                            have n1 : 0 ≤ (nn m : Int) := by omega
                            generalize (nn m : Int) = y at *
                            have HNN := Lib.hid hns
                            clear hns
                            go_wp2
                            exact ⟨⟨m + 1, i + 1, by have := HI.out; omega, by omega, by go_num, by rw [HNN.out], by go_num, HD2.out, trivial⟩, by simp [intOf]; omega⟩
                      · skip
                        have hm2 : m = fLen s.size j := by unfold fLen; omega
                        have hd2 : ∀ q, j + 1 + q < s.size → 48 ≤ bAt s (j + 1 + q) ∧ bAt s (j + 1 + q) ≤ 57 := fun q hq => HDD.out q (by omega)
                        have hve := HFI.out f1 HFF.out hd2 hg
                        have hm9 : m = 0 ∨ j + 1 + m ≤ s.size := by omega
                        have hxb := HXB.out hg hd2
                        have hx0 := HX0.out
                        rw [← hm2] at hxb hx0 hve
                        have HVE := Lib.hid hve
                        have HB := Lib.hid hxb; have HX := Lib.hid hx0; have HS := Lib.hid HXS.out
                        have hm8 : m ≤ 8 := by omega
                        have HI := Lib.hid hi
                        clear hi
                        clear HF3 HN0 HNS HG HFI HNB HX0 HXS HXB HDD hd2 hxb hx0 hm2 hve
                        go_wp2
                        go_loopw [4, 6] (fun a l wr => ∃ q r : Nat, m + q + r = 8 ∧ l = .int .i64 (r : Int) ∧ a = .int .i64 (xx q) ∧ w = wr) (fun _ l _ => (intOf l).toNat)
                        case atStart => exact ⟨0, 8 - m, by omega, by congr 1; omega, by rw [HX.out], rfl⟩
                        case round =>
                          obtain ⟨q, r, hq, rfl, rfl, rfl⟩ := hrel
                          have hb := HB.out q (by omega)
                          have x1 : 0 ≤ (xx q : Int) := by omega
                          have HQ := Lib.hid hq
                          clear hq
                          have r1 : (r : Int) ≤ 8 := by have := HQ.out; omega
                          by_cases hl : 0 < r
                          · have hs := HS.out q
                            generalize (xx q : Int) = y at *
                            have HSS := Lib.hid hs
                            clear hs
                            go_wp2
                            exact ⟨⟨q + 1, r - 1, by have := HQ.out; omega, by congr 1; omega, by rw [HSS.out], trivial⟩, by simp [intOf]; omega⟩
                          · obtain rfl : r = 0 := by omega
                            have hq2 : q = 8 - m := by have := HQ.out; omega
                            rw [← hq2] at HVE
                            clear HB HS hq2
                            generalize (xx q : Int) = y at *
                            by_cases hv : y ≤ 2100000000000000
                            · have hvb : validB y = true := validB_true x1 hv
                              have HV := Lib.hid (show vV y = y ∧ vE y = 0 by simp [vV, vE, hvb])
                              clear hvb
                              go_wp2
                              go_ret2
                              exact ⟨by rw [HVE.out.1, HVE.out.2, HV.out.1, HV.out.2]; rfl, rfl⟩
                            · have HV := Lib.hid (valL_neg y (by omega))
                              go_wp2
                              go_ret2
                              exact ⟨by rw [HVE.out.1, HVE.out.2, HV.out.1, HV.out.2]; rfl, rfl⟩
          · rcases hend with hend | hend
            · skip
              rcases f3 with f3 | ⟨f3, f4⟩
              · have f3b : ¬ ((1 : Int) < (j : Int)) := by omega
                clear hx0 f3
                obtain ⟨rfl, rfl⟩ := HF2.out hkn (.inl g1)
                clear HF2 HF3 HN0 HNS HG HFI HNB HX0 HXS HXB
                go_wp2
                go_ret2
                exact ⟨rfl, rfl⟩
              · generalize hb0 : bAt s 0 = b0 at hx0 f4
                clear hb0
                obtain ⟨rfl, rfl⟩ := HF2.out hkn (.inl g1)
                clear HF2 HF3 HN0 HNS HG HFI HNB HX0 HXS HXB
                go_wp2
                go_ret2
                exact ⟨rfl, rfl⟩
            · skip
              rcases f3 with f3 | ⟨f3, f4⟩
              · have f3b : ¬ ((1 : Int) < (j : Int)) := by omega
                clear hx0 f3
                obtain ⟨rfl, rfl⟩ := HF2.out hkn (.inl g1)
                clear HF2 HF3 HN0 HNS HG HFI HNB HX0 HXS HXB
                go_wp2
                go_ret2
                exact ⟨rfl, rfl⟩
              · generalize hb0 : bAt s 0 = b0 at hx0 f4
                clear hb0
                obtain ⟨rfl, rfl⟩ := HF2.out hkn (.inl g1)
                clear HF2 HF3 HN0 HNS HG HFI HNB HX0 HXS HXB
                go_wp2
                go_ret2
                exact ⟨rfl, rfl⟩
        · have f2 : j < s.size → ¬ (bAt s j ≠ 46 ∨ j + 1 = s.size ∨ 9 < s.size - j) := fun h => absurd h hkn
          clear hend HF2
          have HFF := Lib.hid f2
          clear f2
          rcases f3 with f3 | ⟨f3, f4⟩
          · have f3b : ¬ ((1 : Int) < (j : Int)) := by omega
            clear hx0 f3
            by_cases hg : 21000000 < (cap j : Int)
            · have x0 : 0 ≤ (cap j : Int) := by omega
              go_wp2
              go_loopw [4, 6, 8] (fun a l c wr => ∃ m i : Nat, i = j + 1 + m ∧ (m = 0 ∨ i ≤ s.size) ∧ c = .int .i64 (i : Int) ∧ a = .int .i64 (cap j) ∧ l = .int .i64 (8 - (m : Int)) ∧ (∀ q, q < m → 48 ≤ bAt s (j + 1 + q) ∧ bAt s (j + 1 + q) ≤ 57) ∧ w = wr) (fun _ _ c _ => (s.size - intOf c).toNat)
              case atStart => exact ⟨0, j + 1, by omega, by omega, by go_num, rfl, rfl, fun q hq => absurd hq (by omega), rfl⟩
              case round =>
                obtain ⟨m, i, hi, hm, rfl, rfl, rfl, hd, rfl⟩ := hrel
                have HDD := Lib.hid hd
                clear hd
                by_cases hin : i < s.size
                · have hx := fun W => run_index_string W s i hin
                  have hfo := HF3.out m (by omega)
                  have hdd : 48 ≤ bAt s (j + 1 + m) → bAt s (j + 1 + m) ≤ 57 → ∀ q, q < m + 1 → 48 ≤ bAt s (j + 1 + q) ∧ bAt s (j + 1 + q) ≤ 57 := fun h1 h2 q hq => by
                    by_cases he : q = m
                    · subst he; exact ⟨h1, h2⟩
                    · exact HDD.out q (by omega)
                  rw [← hi] at hfo hdd
                  have m1 : (m : Int) ≤ 281474976710656 := by omega
                  have HI := Lib.hid hi
                  have HDE := Lib.hid hdd
                  clear hdd hi
                  generalize bAt s i = c at *
                  by_cases l1 : c < 48
                  · obtain ⟨rfl, rfl⟩ := hfo (.inl l1)
                    clear HF3 HDE
                    go_wp2
                    go_ret2
                    exact ⟨rfl, rfl⟩
                  · by_cases l2 : c > 57
                    · obtain ⟨rfl, rfl⟩ := hfo (.inr l2)
                      clear HF3 HDE
                      go_wp2
                      go_ret2
                      exact ⟨rfl, rfl⟩
                    · have HD2 := Lib.hid (HDE.out (by omega) (by omega))
                      clear HDE hfo
                      go_wp2
                      exact ⟨⟨m + 1, i + 1, by have := HI.out; omega, by omega, by go_num, rfl, by go_num, HD2.out, trivial⟩, by simp [intOf]; omega⟩
                · skip
                  obtain ⟨rfl, rfl⟩ := HG.out f1 HFF.out (fun q hq => HDD.out q (by omega)) hg
                  have HI := Lib.hid hi
                  clear hi
                  clear HF3 HN0 HNS HG HFI HNB HX0 HXS HXB HDD
                  generalize hcp : (cap j : Int) = x at *
                  clear hcp
                  go_wp2
                  go_loopw [4, 6] (fun a l wr => a = .int .i64 x ∧ l = .int .i64 (8 - (m : Int)) ∧ w = wr) (fun _ _ _ => 0)
                  case atStart => exact ⟨rfl, rfl, rfl⟩
                  case round =>
                    obtain ⟨rfl, rfl, rfl⟩ := hrel
                    by_cases hl : (0 : Int) < 8 - (m : Int)
                    · go_wp2
                      go_ret2
                      exact ⟨rfl, rfl⟩
                    · go_wp2
                      go_ret2
                      exact ⟨rfl, rfl⟩
            · have x0 : 0 ≤ (cap j : Int) := by omega
              go_wp2
              go_loopw [4, 6, 8] (fun a l c wr => ∃ m i : Nat, i = j + 1 + m ∧ (m = 0 ∨ i ≤ s.size) ∧ c = .int .i64 (i : Int) ∧ a = .int .i64 (nn m) ∧ l = .int .i64 (8 - (m : Int)) ∧ (∀ q, q < m → 48 ≤ bAt s (j + 1 + q) ∧ bAt s (j + 1 + q) ≤ 57) ∧ w = wr) (fun _ _ c _ => (s.size - intOf c).toNat)
              case atStart => exact ⟨0, j + 1, by omega, by omega, by go_num, by rw [HN0.out], rfl, fun q hq => absurd hq (by omega), rfl⟩
              case round =>
                obtain ⟨m, i, hi, hm, rfl, rfl, rfl, hd, rfl⟩ := hrel
                have HDD := Lib.hid hd
                clear hd
                by_cases hin : i < s.size
                · have hx := fun W => run_index_string W s i hin
                  have hfo := HF3.out m (by omega)
                  have hdd : 48 ≤ bAt s (j + 1 + m) → bAt s (j + 1 + m) ≤ 57 → ∀ q, q < m + 1 → 48 ≤ bAt s (j + 1 + q) ∧ bAt s (j + 1 + q) ≤ 57 := fun h1 h2 q hq => by
                    by_cases he : q = m
                    · subst he; exact ⟨h1, h2⟩
                    · exact HDD.out q (by omega)
                  have hns := HNS.out m (by omega)
                  have  hnb := HNB.out hg m (by omega) HDD.out (by unfold fLen; omega)
                  rw [← hi] at hfo hdd hns
                  have m1 : (m : Int) ≤ 281474976710656 := by omega
                  have HI := Lib.hid hi
                  have HDE := Lib.hid hdd
                  clear hdd hi
                  generalize bAt s i = c at *
                  by_cases l1 : c < 48
                  · obtain ⟨rfl, rfl⟩ := hfo (.inl l1)
                    clear HF3 hns  hnb HDE
                    go_wp2
                    go_ret2
                    exact ⟨rfl, rfl⟩
                  · by_cases l2 : c > 57
                    · obtain ⟨rfl, rfl⟩ := hfo (.inr l2)
                      clear HF3 hns  hnb HDE
                      go_wp2
                      go_ret2
                      exact ⟨rfl, rfl⟩
                    · have HD2 := Lib.hid (HDE.out (by omega) (by omega))
                      clear HDE hfo
                      have hns := hns (by omega)
                      have n1 : 0 ≤ (nn m : Int) := by omega
                      generalize (nn m : Int) = y at *
                      have HNN := Lib.hid hns
                      clear hns
                      go_wp2
                      exact ⟨⟨m + 1, i + 1, by have := HI.out; omega, by omega, by go_num, by rw [HNN.out], by go_num, HD2.out, trivial⟩, by simp [intOf]; omega⟩
                · skip
                  have hm2 : m = fLen s.size j := by unfold fLen; omega
                  have hd2 : ∀ q, j + 1 + q < s.size → 48 ≤ bAt s (j + 1 + q) ∧ bAt s (j + 1 + q) ≤ 57 := fun q hq => HDD.out q (by omega)
                  have hve := HFI.out f1 HFF.out hd2 hg
                  have hm9 : m = 0 ∨ j + 1 + m ≤ s.size := by omega
                  have hxb := HXB.out hg hd2
                  have hx0 := HX0.out
                  rw [← hm2] at hxb hx0 hve
                  have HVE := Lib.hid hve
                  have HB := Lib.hid hxb; have HX := Lib.hid hx0; have HS := Lib.hid HXS.out
                  have hm8 : m ≤ 8 := by omega
                  have HI := Lib.hid hi
                  clear hi
                  clear HF3 HN0 HNS HG HFI HNB HX0 HXS HXB HDD hd2 hxb hx0 hm2 hve
                  go_wp2
                  go_loopw [4, 6] (fun a l wr => ∃ q r : Nat, m + q + r = 8 ∧ l = .int .i64 (r : Int) ∧ a = .int .i64 (xx q) ∧ w = wr) (fun _ l _ => (intOf l).toNat)
                  case atStart => exact ⟨0, 8 - m, by omega, by congr 1; omega, by rw [HX.out], rfl⟩
                  case round =>
                    obtain ⟨q, r, hq, rfl, rfl, rfl⟩ := hrel
                    have hb := HB.out q (by omega)
                    have x1 : 0 ≤ (xx q : Int) := by omega
                    have HQ := Lib.hid hq
                    clear hq
                    have r1 : (r : Int) ≤ 8 := by have := HQ.out; omega
                    by_cases hl : 0 < r
                    · have hs := HS.out q
                      generalize (xx q : Int) = y at *
                      have HSS := Lib.hid hs
                      clear hs
                      go_wp2
                      exact ⟨⟨q + 1, r - 1, by have := HQ.out; omega, by congr 1; omega, by rw [HSS.out], trivial⟩, by simp [intOf]; omega⟩
                    · obtain rfl : r = 0 := by omega
                      have hq2 : q = 8 - m := by have := HQ.out; omega
                      rw [← hq2] at HVE
                      clear HB HS hq2
                      generalize (xx q : Int) = y at *
                      by_cases hv : y ≤ 2100000000000000
                      · have hvb : validB y = true := validB_true x1 hv
                        have HV := Lib.hid (show vV y = y ∧ vE y = 0 by simp [vV, vE, hvb])
                        clear hvb
                        go_wp2
                        go_ret2
                        exact ⟨by rw [HVE.out.1, HVE.out.2, HV.out.1, HV.out.2]; rfl, rfl⟩
                      · have HV := Lib.hid (valL_neg y (by omega))
                        go_wp2
                        go_ret2
                        exact ⟨by rw [HVE.out.1, HVE.out.2, HV.out.1, HV.out.2]; rfl, rfl⟩
          · generalize hb0 : bAt s 0 = b0 at hx0 f4
            clear hb0
            by_cases hg : 21000000 < (cap j : Int)
            · have x0 : 0 ≤ (cap j : Int) := by omega
              go_wp2
              go_loopw [4, 6, 8] (fun a l c wr => ∃ m i : Nat, i = j + 1 + m ∧ (m = 0 ∨ i ≤ s.size) ∧ c = .int .i64 (i : Int) ∧ a = .int .i64 (cap j) ∧ l = .int .i64 (8 - (m : Int)) ∧ (∀ q, q < m → 48 ≤ bAt s (j + 1 + q) ∧ bAt s (j + 1 + q) ≤ 57) ∧ w = wr) (fun _ _ c _ => (s.size - intOf c).toNat)
              case atStart => exact ⟨0, j + 1, by omega, by omega, by go_num, rfl, rfl, fun q hq => absurd hq (by omega), rfl⟩
              case round =>
                obtain ⟨m, i, hi, hm, rfl, rfl, rfl, hd, rfl⟩ := hrel
                have HDD := Lib.hid hd
                clear hd
                by_cases hin : i < s.size
                · have hx := fun W => run_index_string W s i hin
                  have hfo := HF3.out m (by omega)
                  have hdd : 48 ≤ bAt s (j + 1 + m) → bAt s (j + 1 + m) ≤ 57 → ∀ q, q < m + 1 → 48 ≤ bAt s (j + 1 + q) ∧ bAt s (j + 1 + q) ≤ 57 := fun h1 h2 q hq => by
                    by_cases he : q = m
                    · subst he; exact ⟨h1, h2⟩
                    · exact HDD.out q (by omega)
                  rw [← hi] at hfo hdd
                  have m1 : (m : Int) ≤ 281474976710656 := by omega
                  have HI := Lib.hid hi
                  have HDE := Lib.hid hdd
                  clear hdd hi
                  generalize bAt s i = c at *
                  by_cases l1 : c < 48
                  · obtain ⟨rfl, rfl⟩ := hfo (.inl l1)
                    clear HF3 HDE
                    go_wp2
                    go_ret2
                    exact ⟨rfl, rfl⟩
                  · by_cases l2 : c > 57
                    · obtain ⟨rfl, rfl⟩ := hfo (.inr l2)
                      clear HF3 HDE
                      go_wp2
                      go_ret2
                      exact ⟨rfl, rfl⟩
                    · have HD2 := Lib.hid (HDE.out (by omega) (by omega))
                      clear HDE hfo
                      go_wp2
                      exact ⟨⟨m + 1, i + 1, by have := HI.out; omega, by omega, by go_num, rfl, by go_num, HD2.out, trivial⟩, by simp [intOf]; omega⟩
                · skip
                  obtain ⟨rfl, rfl⟩ := HG.out f1 HFF.out (fun q hq => HDD.out q (by omega)) hg
                  have HI := Lib.hid hi
                  clear hi
                  clear HF3 HN0 HNS HG HFI HNB HX0 HXS HXB HDD
                  generalize hcp : (cap j : Int) = x at *
                  clear hcp
                  go_wp2
                  go_loopw [4, 6] (fun a l wr => a = .int .i64 x ∧ l = .int .i64 (8 - (m : Int)) ∧ w = wr) (fun _ _ _ => 0)
                  case atStart => exact ⟨rfl, rfl, rfl⟩
                  case round =>
                    obtain ⟨rfl, rfl, rfl⟩ := hrel
                    by_cases hl : (0 : Int) < 8 - (m : Int)
                    · go_wp2
                      go_ret2
                      exact ⟨rfl, rfl⟩
                    · go_wp2
                      go_ret2
                      exact ⟨rfl, rfl⟩
            · have x0 : 0 ≤ (cap j : Int) := by omega
              go_wp2
              go_loopw [4, 6, 8] (fun a l c wr => ∃ m i : Nat, i = j + 1 + m ∧ (m = 0 ∨ i ≤ s.size) ∧ c = .int .i64 (i : Int) ∧ a = .int .i64 (nn m) ∧ l = .int .i64 (8 - (m : Int)) ∧ (∀ q, q < m → 48 ≤ bAt s (j + 1 + q) ∧ bAt s (j + 1 + q) ≤ 57) ∧ w = wr) (fun _ _ c _ => (s.size - intOf c).toNat)
              case atStart => exact ⟨0, j + 1, by omega, by omega, by go_num, by rw [HN0.out], rfl, fun q hq => absurd hq (by omega), rfl⟩
              case round =>
                obtain ⟨m, i, hi, hm, rfl, rfl, rfl, hd, rfl⟩ := hrel
                have HDD := Lib.hid hd
                clear hd
                by_cases hin : i < s.size
                · have hx := fun W => run_index_string W s i hin
                  have hfo := HF3.out m (by omega)
                  have hdd : 48 ≤ bAt s (j + 1 + m) → bAt s (j + 1 + m) ≤ 57 → ∀ q, q < m + 1 → 48 ≤ bAt s (j + 1 + q) ∧ bAt s (j + 1 + q) ≤ 57 := fun h1 h2 q hq => by
                    by_cases he : q = m
                    · subst he; exact ⟨h1, h2⟩
                    · exact HDD.out q (by omega)
                  have hns := HNS.out m (by omega)
                  have  hnb := HNB.out hg m (by omega) HDD.out (by unfold fLen; omega)
                  rw [← hi] at hfo hdd hns
                  have m1 : (m : Int) ≤ 281474976710656 := by omega
                  have HI := Lib.hid hi
                  have HDE := Lib.hid hdd
                  clear hdd hi
                  generalize bAt s i = c at *
                  by_cases l1 : c < 48
                  · obtain ⟨rfl, rfl⟩ := hfo (.inl l1)
                    clear HF3 hns  hnb HDE
                    go_wp2
                    go_ret2
                    exact ⟨rfl, rfl⟩
                  · by_cases l2 : c > 57
                    · obtain ⟨rfl, rfl⟩ := hfo (.inr l2)
                      clear HF3 hns  hnb HDE
                      go_wp2
                      go_ret2
                      exact ⟨rfl, rfl⟩
                    · have HD2 := Lib.hid (HDE.out (by omega) (by omega))
                      clear HDE hfo
                      have hns := hns (by omega)
                      have n1 : 0 ≤ (nn m : Int) := by omega
                      generalize (nn m : Int) = y at *
                      have HNN := Lib.hid hns
                      clear hns
                      go_wp2
                      exact ⟨⟨m + 1, i + 1, by have := HI.out; omega, by omega, by go_num, by rw [HNN.out], by go_num, HD2.out, trivial⟩, by simp [intOf]; omega⟩
                · skip
                  have hm2 : m = fLen s.size j := by unfold fLen; omega
                  have hd2 : ∀ q, j + 1 + q < s.size → 48 ≤ bAt s (j + 1 + q) ∧ bAt s (j + 1 + q) ≤ 57 := fun q hq => HDD.out q (by omega)
                  have hve := HFI.out f1 HFF.out hd2 hg
                  have hm9 : m = 0 ∨ j + 1 + m ≤ s.size := by omega
                  have hxb := HXB.out hg hd2
                  have hx0 := HX0.out
                  rw [← hm2] at hxb hx0 hve
                  have HVE := Lib.hid hve
                  have HB := Lib.hid hxb; have HX := Lib.hid hx0; have HS := Lib.hid HXS.out
                  have hm8 : m ≤ 8 := by omega
                  have HI := Lib.hid hi
                  clear hi
                  clear HF3 HN0 HNS HG HFI HNB HX0 HXS HXB HDD hd2 hxb hx0 hm2 hve
                  go_wp2
                  go_loopw [4, 6] (fun a l wr => ∃ q r : Nat, m + q + r = 8 ∧ l = .int .i64 (r : Int) ∧ a = .int .i64 (xx q) ∧ w = wr) (fun _ l _ => (intOf l).toNat)
                  case atStart => exact ⟨0, 8 - m, by omega, by congr 1; omega, by rw [HX.out], rfl⟩
                  case round =>
                    obtain ⟨q, r, hq, rfl, rfl, rfl⟩ := hrel
                    have hb := HB.out q (by omega)
                    have x1 : 0 ≤ (xx q : Int) := by omega
                    have HQ := Lib.hid hq
                    clear hq
                    have r1 : (r : Int) ≤ 8 := by have := HQ.out; omega
                    by_cases hl : 0 < r
                    · have hs := HS.out q
                      generalize (xx q : Int) = y at *
                      have HSS := Lib.hid hs
                      clear hs
                      go_wp2
                      exact ⟨⟨q + 1, r - 1, by have := HQ.out; omega, by congr 1; omega, by rw [HSS.out], trivial⟩, by simp [intOf]; omega⟩
                    · obtain rfl : r = 0 := by omega
                      have hq2 : q = 8 - m := by have := HQ.out; omega
                      rw [← hq2] at HVE
                      clear HB HS hq2
                      generalize (xx q : Int) = y at *
                      by_cases hv : y ≤ 2100000000000000
                      · have hvb : validB y = true := validB_true x1 hv
                        have HV := Lib.hid (show vV y = y ∧ vE y = 0 by simp [vV, vE, hvb])
                        clear hvb
                        go_wp2
                        go_ret2
                        exact ⟨by rw [HVE.out.1, HVE.out.2, HV.out.1, HV.out.2]; rfl, rfl⟩
                      · have HV := Lib.hid (valL_neg y (by omega))
                        go_wp2
                        go_ret2
                        exact ⟨by rw [HVE.out.1, HVE.out.2, HV.out.1, HV.out.2]; rfl, rfl⟩
end Go.Proofs.YtigbngdeffbhnaaDoor
