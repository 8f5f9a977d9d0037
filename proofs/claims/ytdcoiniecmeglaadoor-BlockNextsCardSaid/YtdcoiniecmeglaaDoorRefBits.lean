/- The reference's Limit and Bits. -/
import Derived.Test.YtdcoiniecmeglaaDoorNumBits
namespace Go.Proofs.YtdcoiniecmeglaaDoor
set_option linter.unusedVariables false
set_option linter.unusedSimpArgs false
open Go Go.RowKit

set_option maxRecDepth 100000 in
set_option maxHeartbeats 1000000 in
theorem rlimit_any (w : World) : Calls Tryd.prog 28 #[] w fun e w' => e = .returned (.agg (limitB.map (Value.int .u8)).toArray) ∧ Keeps w w' := by
  have HZ0 : ∀ (W : World) (a : Act) (o : Oper), o.op = .build 22 #[(0, .const (.int .u8 127)), (1, .const (.int .u8 255)), (2, .const (.int .u8 255))] → (execOp a.eval o).run Tryd.prog W = .ok (.value (.agg (limitB.map (Value.int .u8)).toArray)) W := fun W a o ho => by
    unfold execOp; rw [ho]; kernel_rfl
  have hl9 := limitB_length
  have HS : (Tryd.prog.info? 22).map (·.size) = some (limitB.map (Value.int .u8)).length := by rw [List.length_map, hl9]; kernel_rfl
  generalize limitB = L at *
  have HZ := Lib.hid HZ0
  clear HZ0
  go_enter Tryd.func28, Tryd.ntmps28
  go_upto_region 1 with (fail)
  go_wp2_with (first | (refine wpList_store_row rfl 22 (.tmp 0) (.tmp 1) rfl _ 0 rfl (List.replicate 32 (Value.int .u8 0)) (L.map (Value.int .u8)) rfl (Row.new _ _ _ rfl) (by simp [hl9]) HS (int_oneCell _) ?_; intro w8 hr8 hc8; have H8 := Lib.hid hr8; have HC8 := Lib.hid hc8; clear hr8 hc8) | (refine wpList_plain rfl fun _ hK => ?_; unfold Oper.wp; rw [HZ.out _ _ _ rfl]; refine hK _ _ ?_))
  exact bodyPost_ret (v := .agg (L.map (Value.int .u8)).toArray) (results_cell_at (p := 0) (ty := 22) rfl _ _ w.heap.size 0 _ _ rfl H8.out Tryd.underlying22 rfl HS) rfl ⟨rfl, keeps_chg (keeps_alloc (Keeps.refl w) _) HC8.out (Nat.le_refl _)⟩
set_option maxRecDepth 100000 in
set_option maxHeartbeats 1000000 in
theorem rbits_any (l : List Int) (hb : Bytes l) (hl : l.length = 32) (w : World) :
    Calls Tryd.prog 14 #[.agg (l.map (Value.int .u8)).toArray] w fun e w' => e = .returned (.int .u32 (bitsOf l)) ∧ Keeps w w' := by
  have hf := lead_le l
  rw [hl] at hf
  have HLA := Lib.hid (fun i h1 h2 h3 => lead_at (l := l) (i := i) h1 h2 h3)
  have HLZ := Lib.hid (lead_all (l := l))
  have HBV := Lib.hid (show bitsOf l = bitsOf' l (lead l) from rfl)
  have hm0 : mant l (lead l) 0 = 0 := rfl
  have hm1 : ∀ k, mant l (lead l) (k + 1) = mant l (lead l) k * 256 + l.getD (lead l + k) 0 := fun _ => rfl
  have hmr : ∀ k, k ≤ 2 → 0 ≤ mant l (lead l) k ∧ mant l (lead l) k < 65536 := by
    intro k hk
    have h0 := hb.get (lead l); have h1 := hb.get (lead l + 1)
    have : k = 0 ∨ k = 1 ∨ k = 2 := by omega
    rcases this with rfl | rfl | rfl <;> simp only [mant, Nat.add_zero] at * <;> omega
  have hg0 : ∀ j, 32 ≤ j → l.getD j 0 = 0 := fun j hj => by rw [List.getD, List.getElem?_eq_none (by omega)]; rfl
  have hgr : ∀ j, 0 ≤ l.getD j 0 ∧ l.getD j 0 < 256 := fun j => hb.get j
  have hbo : bitsOf' l (lead l) = if 8388608 ≤ mant l (lead l) 3 then (33 - (lead l : Int)) * 16777216 + mant l (lead l) 3 / 256 else (32 - (lead l : Int)) * 16777216 + mant l (lead l) 3 := rfl
  have hm3 := mant_range hb (lead l)
  generalize mant l (lead l) = M at *
  generalize bitsOf' l (lead l) = BO at *
  generalize lead l = F at *
  have HM0 := Lib.hid hm0; have HM1 := Lib.hid hm1; have HMR := Lib.hid hmr; have HG0 := Lib.hid hg0; have HGR := Lib.hid hgr; have HBO := Lib.hid hbo; have HM3 := Lib.hid hm3
  clear hm0 hm1 hmr hg0 hgr hbo hm3
  go_enter Tryd.func14, Tryd.ntmps14
  go_upto_region 1 with (fail)
  refine wp_rows1 (fun W hk hr hs => ?_)
  obtain ⟨p, hp⟩ : ∃ p, p = w.heap.size := ⟨_, rfl⟩
  rw [← hp] at hr hs ⊢
  have HR := Lib.hid (show Row W p 0 (l.map (Value.int .u8)) from hr); have HK := Lib.hid hk
  clear hp hr hs hk
  go_wp2
  go_loopw [3] (fun c wr => wr = W ∧ ∃ i : Nat, i ≤ 32 ∧ c = .int .i64 i ∧ ∀ j, j < i → l.getD j 0 = 0) (fun c _ => (32 - intOf c).toNat)
  case atStart => exact ⟨rfl, 0, by omega, rfl, by omega⟩
  case round =>
    obtain ⟨rfl, i, hi, rfl, hz⟩ := hrel
    have hcase : (i < 32 ∧ l.getD i 0 = 0) ∨ (i = F ∧ (i < 32 → l.getD i 0 ≠ 0)) := by
      by_cases hlt : i < 32
      · by_cases hx : l.getD i 0 = 0
        · exact .inl ⟨hlt, hx⟩
        · exact .inr ⟨(HLA.out i hz (by omega) hx).symm, fun _ => hx⟩
      · obtain rfl : i = 32 := by omega
        exact .inr ⟨by rw [HLZ.out (by rw [hl]; exact hz), hl], by omega⟩
    rcases hcase with ⟨hlt, hx⟩ | ⟨rfl, hx⟩
    · have c1 := HR.out.int0 i (by omega)
      rw [hx] at c1
      have HZ := Lib.hid hz
      clear hz
      go_wp2
      go_roundw
      case rel => exact ⟨trivial, i + 1, by omega, by go_num, fun j hj => by
        by_cases e : j = i
        · rw [e]; exact hx
        · exact HZ.out j (by omega)⟩
      case measure => simp [intOf]; omega
    · clear hz
      by_cases hlt : i < 32
      · have c1 := HR.out.int0 i (by omega)
        have hx2 := hx hlt
        have hd : (l.getD i 0 == 0) = false := by simpa using hx2
        clear hx hx2
        generalize l.getD i 0 = x0 at *
        go_wp2
        go_loopw [5, 6] (fun m c wr2 => wr2 = wr ∧ ∃ k : Nat, k ≤ 3 ∧ c = .int .i64 k ∧ m = .int .u32 (M k)) (fun _ c _ => (3 - intOf c).toNat)
        case atStart => exact ⟨rfl, 0, by omega, rfl, by rw [HM0.out]⟩
        case round =>
          obtain ⟨rfl, k, hk, rfl, rfl⟩ := hrel
          by_cases hlt : k < 3
          · obtain ⟨m0, m1⟩ := HMR.out k (by omega)
            have hmm := HM1.out k
            by_cases hin : i + k < 32
            · have c1 := HR.out.int0 (i + k) (by omega)
              obtain ⟨g0, g1⟩ := HGR.out (i + k)
              generalize l.getD (i + k) 0 = x at *
              generalize M k = m at *
              have HMM := Lib.hid hmm
              clear hmm
              go_wp2
              go_roundw
              case rel => exact ⟨trivial, k + 1, by omega, by go_num, by rw [HMM.out]⟩
              case measure => simp [intOf]; omega
            · have hx := HG0.out (i + k) (by omega)
              rw [hx, Int.add_zero] at hmm
              generalize M k = m at *
              have HMM := Lib.hid hmm
              clear hmm
              go_wp2
              go_roundw
              case rel => exact ⟨trivial, k + 1, by omega, by go_num, by rw [HMM.out]⟩
              case measure => simp [intOf]; omega
          · obtain rfl : k = 3 := by omega
            obtain ⟨m0, m1⟩ := HM3.out
            generalize M 3 = m at *
            by_cases hbig : 8388608 ≤ m
            · have hbo : BO = (33 - (i : Int)) * 16777216 + m / 256 := by rw [HBO.out, if_pos hbig]
              have hd : decide (m ≥ 8388608) = true := by simpa using hbig
              have ht : m.tdiv 256 = m / 256 := Int.tdiv_eq_ediv_of_nonneg m0
              have HBO2 := Lib.hid hbo
              clear hbo
              go_wp2
              go_ret
              exact ⟨ret_int (by have e1 := HBV.out; have e2 := HBO2.out; omega), HK.out⟩
            · have hbo : BO = (32 - (i : Int)) * 16777216 + m := by rw [HBO.out, if_neg hbig]
              have hd : decide (m ≥ 8388608) = false := by simpa using hbig
              have HBO2 := Lib.hid hbo
              clear hbo
              go_wp2
              go_ret
              exact ⟨ret_int (by have e1 := HBV.out; have e2 := HBO2.out; omega), HK.out⟩
      · obtain rfl : i = 32 := by omega
        clear hx
        go_wp2
        go_loopw [5, 6] (fun m c wr2 => wr2 = wr ∧ ∃ k : Nat, k ≤ 3 ∧ c = .int .i64 k ∧ m = .int .u32 (M k)) (fun _ c _ => (3 - intOf c).toNat)
        case atStart => exact ⟨rfl, 0, by omega, rfl, by rw [HM0.out]⟩
        case round =>
          obtain ⟨rfl, k, hk, rfl, rfl⟩ := hrel
          by_cases hlt : k < 3
          · obtain ⟨m0, m1⟩ := HMR.out k (by omega)
            have hmm := HM1.out k
            by_cases hin : 32 + k < 32
            · omega
            · have hx := HG0.out (32 + k) (by omega)
              rw [hx, Int.add_zero] at hmm
              generalize M k = m at *
              have HMM := Lib.hid hmm
              clear hmm
              go_wp2
              go_roundw
              case rel => exact ⟨trivial, k + 1, by omega, by go_num, by rw [HMM.out]⟩
              case measure => simp [intOf]; omega
          · obtain rfl : k = 3 := by omega
            obtain ⟨m0, m1⟩ := HM3.out
            generalize M 3 = m at *
            by_cases hbig : 8388608 ≤ m
            · have hbo : BO = (33 - ((32 : Nat) : Int)) * 16777216 + m / 256 := by rw [HBO.out, if_pos hbig]
              have hd : decide (m ≥ 8388608) = true := by simpa using hbig
              have ht : m.tdiv 256 = m / 256 := Int.tdiv_eq_ediv_of_nonneg m0
              have HBO2 := Lib.hid hbo
              clear hbo
              go_wp2
              go_ret
              exact ⟨ret_int (by have e1 := HBV.out; have e2 := HBO2.out; omega), HK.out⟩
            · have hbo : BO = (32 - ((32 : Nat) : Int)) * 16777216 + m := by rw [HBO.out, if_neg hbig]
              have hd : decide (m ≥ 8388608) = false := by simpa using hbig
              have HBO2 := Lib.hid hbo
              clear hbo
              go_wp2
              go_ret
              exact ⟨ret_int (by have e1 := HBV.out; have e2 := HBO2.out; omega), HK.out⟩
end Go.Proofs.YtdcoiniecmeglaaDoor
