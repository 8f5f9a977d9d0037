/- block.Next: the bits that follow. -/
import Derived.Test.YtdcoiniecmeglaaDoorRefNext
import Derived.Test.YtdcoiniecmeglaaDoorDiv64
import Derived.Test.YtdcoiniecmeglaaDoorNumA
import Derived.Test.YtdcoiniecmeglaaDoorNumBits
namespace Go.Proofs.YtdcoiniecmeglaaDoor
set_option linter.unusedVariables false
set_option linter.unusedSimpArgs false
open Go Go.RowKit

theorem mul64_any (x y : Int) (h0 : 0 ≤ x) (h1 : x < 18446744073709551616) (h2 : 0 ≤ y) (h3 : y < 18446744073709551616) (w : World) :
    Calls Tryd.prog 33 #[.int .u64 x, .int .u64 y] w fun e w' => e = .returned (.tuple #[.int .u64 (x * y / 18446744073709551616), .int .u64 (x * y % 18446744073709551616)]) ∧ w = w' := by
  obtain ⟨X, rfl⟩ := Int.eq_ofNat_of_zero_le h0
  obtain ⟨Y, rfl⟩ := Int.eq_ofNat_of_zero_le h2
  have := Tryd.bits_Mul64 X Y (by omega) (by omega) w
  refine this.mono ?_
  rintro e w' ⟨rfl, rfl⟩
  exact ⟨by simp, rfl⟩
theorem sz_w5 (l : List Int) (h : l.length = 5) : (Tryd.prog.info? 64).map (·.size) = some (l.map (Value.int .u64)).length := by rw [List.length_map, h]; kernel_rfl
theorem sz_u64 : (Tryd.prog.info? 50).map (·.size) = some 1 := by kernel_rfl
/-- the five ways that Next ends -/
theorem next_leaves (x s : Int) (hs : (target x).isSome = true) (Q : Int) (hQ : Q = be (tgtRes x) * clampS s / 4800) :
    (decide (N256 ≤ Q) = true ∧ nextRes x s = bitsOf limitB) ∨ (decide (N256 ≤ Q) = false ∧ cmpZ (be (toB 32 Q)) (be limitB) = 1 ∧ nextRes x s = bitsOf limitB) ∨
    (decide (N256 ≤ Q) = false ∧ cmpZ (be (toB 32 Q)) (be limitB) = -1 ∧ decide (toB 32 Q = zero32) = true ∧ (toB 32 Q).set 31 1 = toB 32 1 ∧ nextRes x s = bitsOf (toB 32 1)) ∨
    (decide (N256 ≤ Q) = false ∧ cmpZ (be (toB 32 Q)) (be limitB) = -1 ∧ decide (toB 32 Q = zero32) = false ∧ nextRes x s = bitsOf (toB 32 Q)) ∨
    (decide (N256 ≤ Q) = false ∧ cmpZ (be (toB 32 Q)) (be limitB) = 0 ∧ decide (toB 32 Q = zero32) = false ∧ nextRes x s = bitsOf (toB 32 Q)) := by
  obtain ⟨hq0, hleaf⟩ := next_leaf x s hs
  rw [← hQ] at hq0 hleaf
  have hlim := limit_small
  have hlp := limit_pos
  clear hQ
  by_cases hbig : N256 ≤ Q
  · rcases hleaf with ⟨ha, hb⟩ | ⟨ha, hb⟩ | ⟨ha, hb, hc⟩
    · exact .inl ⟨decide_eq_true hbig, hb⟩
    · exact absurd hbig (by unfold N256; omega)
    · exact absurd hbig (by unfold N256; omega)
  · rw [be_toB', Int.emod_eq_of_lt hq0 (by omega)]
    unfold cmpZ
    rcases hleaf with ⟨ha, hb⟩ | ⟨ha, hb⟩ | ⟨ha, hb, hc⟩
    · exact .inr (.inl ⟨decide_eq_false hbig, by rw [if_neg (by omega), if_pos ha], hb⟩)
    · refine .inr (.inr (.inl ⟨decide_eq_false hbig, by rw [if_pos (by omega)], decide_eq_true ((toB_small_zero hq0 (by omega)).2 ha), ?_, hb⟩))
      rw [ha]; decide +kernel
    · have hz : decide (toB 32 Q = zero32) = false := decide_eq_false (fun h => by have := (toB_small_zero hq0 hb).1 h; omega)
      by_cases he : Q = be limitB
      · exact .inr (.inr (.inr (.inr ⟨decide_eq_false hbig, by rw [if_neg (by omega), if_neg (by omega)], hz, hc⟩)))
      · exact .inr (.inr (.inr (.inl ⟨decide_eq_false hbig, by rw [if_pos (by omega)], hz, hc⟩)))
set_option maxRecDepth 100000 in
set_option maxHeartbeats 4000000 in
/-- the walk, of a target that may be, over letters -/
theorem next_walk (x s S RES : Int) (hsr : -9223372036854775808 ≤ s) (hs1 : s < 9223372036854775808) (hS0 : 0 < S) (hS1 : S ≤ 19200) (hcc : max 1200 (min s 19200) = S) (TT TW FW : List Int)
    (htg : ∀ w, Calls Tryd.prog 11 #[.int .u32 x] w fun e w' => e = .returned (.tuple #[.agg (TT.map (Value.int .u8)).toArray, .int .i64 0]) ∧ Keeps w w')
    (hl9 : TT.length = 32)
    (hwords : ∀ w, Calls Tryd.prog 23 #[.agg (TT.map (Value.int .u8)).toArray] w fun e w' => e = .returned (.agg (TW.map (Value.int .u64)).toArray) ∧ Keeps w w')
    (hwl : TW.length = 4) (hwr : ∀ i, i < 4 → 0 ≤ TW.getD i 0 ∧ TW.getD i 0 < 18446744073709551616)
    (P : Nat → List Int) (C : Nat → Int) (hpl : ∀ i, (P i).length = 5) (hp0 : P 0 = [0, 0, 0, 0, 0]) (hpg : ∀ i, i < 4 → (P i).getD i 0 = C i)
    (hps : ∀ i, i < 4 → ((P i).set i ((C i + TW.getD i 0 * S) % 18446744073709551616)).set (i + 1) ((C i + TW.getD i 0 * S) / 18446744073709551616) = P (i + 1))
    (hcr : ∀ i, 0 ≤ C i ∧ C i < S) (hcs : ∀ i, i < 4 → (C i + TW.getD i 0 * S) / 18446744073709551616 = C (i + 1))
    (TOP : Int) (ht4 : (P 4).getD 4 0 = TOP) (ht0 : 0 ≤ TOP) (ht1 : TOP < 18446744073709551616) (NR : Nat → Int) (QW : Nat → List Int) (hn4 : TOP % 4800 = NR 4) (hq4 : QW 4 = [0, 0, 0, 0]) (hql : ∀ i, (QW i).length = 4) (hnr : ∀ i, 0 ≤ NR i ∧ NR i < 4800)
    (hd : ∀ i, i < 4 → 0 ≤ (P 4).getD i 0 ∧ (P 4).getD i 0 < 18446744073709551616)
    (hns : ∀ i, i < 4 → (NR (i + 1) * 18446744073709551616 + (P 4).getD i 0) / 4800 = FW.getD i 0 ∧ (NR (i + 1) * 18446744073709551616 + (P 4).getD i 0) % 4800 = NR i)
    (hqs : ∀ i, i < 4 → (QW (i + 1)).set i (FW.getD i 0) = QW i) (hq0 : QW 0 = FW) (hfl : FW.length = 4)
    (GR : Bool) (hgr : decide (4800 ≤ TOP) = GR) (N O1 LB : List Int) (CM b1 b2 b3 : Int) (EQ : Bool)
    (hnum : ∀ w, Calls Tryd.prog 25 #[.agg (FW.map (Value.int .u64)).toArray] w fun e w' => e = .returned (.agg (N.map (Value.int .u8)).toArray) ∧ Keeps w w') (hnl : N.length = 32) (hol : O1.length = 32) (hll : LB.length = 32)
    (hlim : ∀ w, Calls Tryd.prog 27 #[] w fun e w' => e = .returned (.agg (LB.map (Value.int .u8)).toArray) ∧ Keeps w w')
    (hcmp : ∀ w, Calls Tryd.prog 8 #[.agg (N.map (Value.int .u8)).toArray, .agg (LB.map (Value.int .u8)).toArray] w fun e w' => e = .returned (.int .i64 CM) ∧ Keeps w w')
    (hE : ∀ W, (Op.equalIn 10000 23 (.agg (N.map (Value.int .u8)).toArray) (.agg (zero32.map (Value.int .u8)).toArray)).run Tryd.prog W = .ok EQ W)
    (hEL : ∀ W, (Op.equalIn 10000 23 (.agg (LB.map (Value.int .u8)).toArray) (.agg (zero32.map (Value.int .u8)).toArray)).run Tryd.prog W = .ok false W)
    (hB1 : ∀ w, Calls Tryd.prog 13 #[.agg (LB.map (Value.int .u8)).toArray] w fun e w' => e = .returned (.int .u32 b1) ∧ Keeps w w')
    (hB2 : ∀ w, Calls Tryd.prog 13 #[.agg (O1.map (Value.int .u8)).toArray] w fun e w' => e = .returned (.int .u32 b2) ∧ Keeps w w')
    (hB3 : ∀ w, Calls Tryd.prog 13 #[.agg (N.map (Value.int .u8)).toArray] w fun e w' => e = .returned (.int .u32 b3) ∧ Keeps w w')
    (hcases : (GR = true ∧ RES = b1) ∨ (GR = false ∧ CM = 1 ∧ RES = b1) ∨ (GR = false ∧ CM = -1 ∧ EQ = true ∧ N.set 31 1 = O1 ∧ RES = b2) ∨ (GR = false ∧ CM = -1 ∧ EQ = false ∧ RES = b3) ∨ (GR = false ∧ CM = 0 ∧ EQ = false ∧ RES = b3))
    (w : World) : Calls Tryd.prog 17 #[.int .u32 x, .int .i64 s] w fun e w' => e = .returned (.int .u32 RES) ∧ Keeps w w' := by
  have HTG := Lib.hid htg; have HWORDS := Lib.hid hwords; have HWR := Lib.hid hwr; have HPL := Lib.hid hpl; have HP0 := Lib.hid hp0; have HPG := Lib.hid hpg; have HPS := Lib.hid hps; have HCR := Lib.hid hcr; have HCS := Lib.hid hcs
  have HT4 := Lib.hid ht4; have HN4 := Lib.hid hn4; have HQ4 := Lib.hid hq4; have HQL := Lib.hid hql; have HNR := Lib.hid hnr; have HD := Lib.hid hd; have HNS := Lib.hid hns; have HQS := Lib.hid hqs; have HQ0 := Lib.hid hq0; have HFL := Lib.hid hfl
  clear htg hwords hwr hpl hp0 hpg hps hcr hcs ht4 hn4 hq4 hql hnr hd hns hqs hq0
  have HCC := Lib.hid hcc
  clear hcc
  have HNUM := Lib.hid hnum; have HLI := Lib.hid hlim; have HCMP := Lib.hid hcmp; have HE := Lib.hid hE; have HEL := Lib.hid hEL; have HB1 := Lib.hid hB1; have HB2 := Lib.hid hB2; have HB3 := Lib.hid hB3; have HCA := Lib.hid hcases
  clear hnum hlim hcmp hE hEL hB1 hB2 hB3 hcases
  have hz9 := zero32_length
  go_enter Tryd.func17, Tryd.ntmps17
  go_upto_region 2 with (first | (go_at_call 11; refine (HTG.out _).mono ?_; rintro e W5 ⟨rfl, hk5⟩; have HK5 := Lib.hid hk5; clear hk5) | (refine wpList_store_row rfl 23 (.tmp 5) (.tmp 21) rfl _ 0 rfl (List.replicate 32 (Value.int .u8 0)) (TT.map (Value.int .u8)) rfl (Row.new _ _ _ rfl) (by simp [hl9]) (sz_n32 TT hl9) (int_oneCell _) ?_; intro w8 hr8 hc8; have H8 := Lib.hid hr8; have HC8 := Lib.hid hc8; clear hr8 hc8))
  have HK8 := Lib.hid (laid_keeps HK5.out HC8.out)
  generalize W5.heap.size = g5 at *
  clear HC8 HK5 HTG
  go_upto_region 5 with (fail)
  rw [HCC.out]
  go_upto_region 6 with (fail)
  refine wp_rows1 (fun W7 hk hr hs => ?_)
  have hgg : w.heap.size ≤ w8.heap.size := HK8.out.size
  obtain ⟨g7, hg7⟩ : ∃ g, g = w8.heap.size := ⟨_, rfl⟩
  rw [← hg7] at hr hs hgg ⊢
  have HR7 := Lib.hid (show Row W7 g7 0 ((P 0).map (Value.int .u64)) by rw [HP0.out]; exact hr)
  have HK7 := Lib.hid (HK8.out.trans hk)
  have H5 := Lib.hid (H8.out.keeps hk)
  clear hr hs hk hg7 HK8 H8 HP0 HCC
  go_wp2_with (first | (refine wpList_load_at rfl 23 (.tmp 5) rfl g5 0 rfl (TT.map (Value.int .u8)) _ H5.out Tryd.underlying23 rfl (sz_n32 TT hl9) ?_) | (go_at_call 23; refine (HWORDS.out _).mono ?_; rintro e W9 ⟨rfl, hk9⟩; have HK9 := Lib.hid hk9; clear hk9))
  go_loopw [30] (fun c wr => ∃ i : Nat, i ≤ 4 ∧ c = .int .i64 i ∧ Keeps w wr ∧ Row wr g7 0 ((P i).map (Value.int .u64))) (fun c _ => (4 - intOf c).toNat)
  case atStart => exact ⟨0, by omega, rfl, HK7.out.trans HK9.out, HR7.out.keeps HK9.out⟩
  case round =>
    obtain ⟨i, hi, rfl, hk, hr⟩ := hrel
    by_cases hlt : i < 4
    · have c1 := hr.int0 i (by rw [HPL.out]; omega)
      rw [HPG.out i hlt] at c1
      have c2 := hr.int0 (i + 1) (by rw [HPL.out]; omega)
      have f1 := hr.free0 i (by rw [List.length_map, HPL.out]; omega)
      have f2 := hr.free0 (i + 1) (by rw [List.length_map, HPL.out]; omega)
      obtain ⟨x0, x1⟩ := HWR.out i hlt
      obtain ⟨z0, z1⟩ := HCR.out i
      obtain ⟨y0, y1⟩ := HCR.out (i + 1)
      have hps := HPS.out i hlt
      have hcs := HCS.out i hlt
      have hset1 := hr.setInt0 i (by rw [HPL.out]; omega) ((C i + TW.getD i 0 * S) % 18446744073709551616)
      have hset2 := hset1.setInt0 (i + 1) (by rw [List.length_set, HPL.out]; omega) ((C i + TW.getD i 0 * S) / 18446744073709551616)
      rw [hps] at hset2
      have hx5 := fun W => run_index_ints (P := Tryd.prog) W 52 50 4 .u64 TW i Tryd.underlying52 Tryd.underlying50 sz_u64 hwl hlt
      have hm := mul64_any (TW.getD i 0) S x0 x1 (by omega) (by omega)
      generalize hx : TW.getD i 0 = X at *
      have hm0 : 0 ≤ X * S := Int.mul_nonneg x0 (by omega)
      generalize X * S = PR at *
      generalize C i = z at *
      have hadd := add64_run z (PR % 18446744073709551616) 0 z0 (by omega) (by omega) (by omega)
      have e1 : (z + PR % 18446744073709551616 + 0) % 18446744073709551616 = (z + PR) % 18446744073709551616 := by omega
      have e2 : IntKind.u64.wrap (PR / 18446744073709551616 + (z + PR % 18446744073709551616) / 18446744073709551616) = (z + PR) / 18446744073709551616 := by rw [IntKind.wrap_u64]; omega
      have es : IntKind.u64.wrap S = S := by rw [IntKind.wrap_u64]; omega
      rw [e1] at hadd
      have HSET2 := Lib.hid hset2; have HM := Lib.hid hm; have HK2 := Lib.hid hk; have E2 := Lib.hid e2; have ES := Lib.hid es
      clear hset1 hset2 hm hk hr hps hcs e1 e2 es
      go_upto_region 10 with (first | (go_at_call 33; refine (HM.out _).mono ?_; rintro e W10 ⟨rfl, rfl⟩))
      go_wp2
      go_roundw
      case rel =>
        rw [E2.out]
        exact ⟨i + 1, by omega, by go_num, keeps_set (keeps_set HK2.out (by omega) _) (by omega) _, HSET2.out⟩
      case measure => simp [intOf]; omega
    · obtain rfl : i = 4 := by omega
      have HR7 := Lib.hid hr; have HK2 := Lib.hid hk
      clear hr hk HWR HPS HCR HCS HWORDS HPG
      go_upto_region 15 with (fail)
      refine wp_rows1 (fun W13 hk hr13 hs => ?_)
      have hg7 : g7 < wr.heap.size := HR7.out.lt (by intro e; have := congrArg List.length e; rw [List.length_map, HPL.out] at this; simp at this)
      obtain ⟨g13, hg13⟩ : ∃ g, g = wr.heap.size := ⟨_, rfl⟩
      rw [← hg13] at hr13 hs hg7 ⊢
      have hr7 := HR7.out.keeps hk
      have c4 := hr7.int0 4 (by rw [HPL.out]; omega)
      rw [HT4.out] at c4
      have H7 := Lib.hid hr7
      have H13 := Lib.hid (show Row W13 g13 0 ((QW 4).map (Value.int .u64)) by rw [HQ4.out]; exact hr13)
      have HK3 := Lib.hid (HK2.out.trans hk)
      clear hr7 hr13 hk hg13 HR7 HK2 hs
      go_upto_region 17 with (fail)
      rw [HN4.out]
      clear hgr c4 ht0 ht1 HT4 HN4 HQ4
      go_wp2
      go_loopw [14, 16] (fun r c wr => ∃ k : Nat, k ≤ 4 ∧ c = .int .i64 ((k : Int) - 1) ∧ r = .int .u64 (NR k) ∧ Keeps w wr ∧ Row wr g7 0 ((P 4).map (Value.int .u64)) ∧ Row wr g13 0 ((QW k).map (Value.int .u64))) (fun _ c _ => (intOf c + 1).toNat)
      case atStart => exact ⟨4, by omega, rfl, rfl, HK3.out, H7.out, H13.out⟩
      case round =>
        obtain ⟨k, hk4, hc, rfl, hkk, hr7, hr13⟩ := hrel
        by_cases hpos : 0 < k
        · obtain ⟨j, rfl⟩ : ∃ j, k = j + 1 := ⟨k - 1, by omega⟩
          rw [show ((j + 1 : Nat) : Int) - 1 = j by omega] at hc
          subst hc
          have hj : j < 4 := by omega
          have c1 := hr7.int0 j (by rw [HPL.out]; omega)
          obtain ⟨d0, d1⟩ := HD.out j hj
          obtain ⟨n0, n1⟩ := HNR.out (j + 1)
          obtain ⟨s1, s2⟩ := HNS.out j hj
          have hqs := HQS.out j hj
          have hdv := div64_any (NR (j + 1)) ((P 4).getD j 0) n0 n1 d0 d1
          rw [s1, s2] at hdv
          have hql := HQL.out (j + 1)
          generalize QW (j + 1) = Qj at *
          generalize FW.getD j 0 = fw at *
          generalize hpj : (P 4).getD j 0 = pj at *
          generalize hnj : NR (j + 1) = nj at *
          have HDV := Lib.hid hdv; have HK4 := Lib.hid hkk; have H7b := Lib.hid hr7; have H13b := Lib.hid hr13; have HQQ := Lib.hid hqs
          clear hdv hkk hr7 hr13 s1 s2 hpj hnj d0 d1 n0 n1 H7 H13 HK3 hqs
          go_wp2_with (go_at_call 35; refine (HDV.out _).mono ?_; rintro e W20 ⟨rfl, hk20⟩; have hq20 := H13b.out.keeps hk20; have c2 := hq20.int0 j (by omega); have f2 := hq20.free0 j (by rw [List.length_map]; omega); have HSET := Lib.hid (hq20.setInt0 j (by omega) fw); have H7c := Lib.hid (H7b.out.keeps hk20); have HK20 := Lib.hid (HK4.out.trans hk20); clear hk20 hq20)
          go_roundw
          case rel =>
            exact ⟨_, _, _, _, _, _, _, _, _, _, _, _, _, _, _, _, ⟨j, by omega, rfl, rfl, keeps_set HK20.out (by omega) _, H7c.out.other (by simp; omega) _, by have := HSET.out; rw [HQQ.out] at this; exact this⟩, rfl⟩
          case measure => simp [intOf]
        · obtain rfl : k = 0 := by omega
          subst hc
          rw [HQ0.out] at hr13
          have H13c := Lib.hid hr13; have HK4 := Lib.hid hkk
          clear hr13 hkk hr7 H7 H13 HK3 HD HNS HQS HNR HQ0 HQL
          generalize NR 0 = nr0 at *
          go_upto_region 22 with (first | (refine wpList_load_at rfl 52 (.tmp 13) rfl g13 0 rfl (FW.map (Value.int .u64)) _ H13c.out Tryd.underlying52 rfl (sz_w4 FW hfl) ?_) | (go_at_call 25; refine (HNUM.out _).mono ?_; rintro e W9 ⟨rfl, hk9⟩; have HK9 := Lib.hid hk9; clear hk9) | (refine wpList_store_row rfl 23 (.tmp 17) (.tmp 79) rfl _ 0 rfl (List.replicate 32 (Value.int .u8 0)) (N.map (Value.int .u8)) rfl (Row.new _ _ _ rfl) (by simp [hnl]) (sz_n32 N hnl) (int_oneCell _) ?_; intro w10 hr10 hc10; have H10 := Lib.hid hr10; have HC10 := Lib.hid hc10; clear hr10 hc10))
          have HK10 := Lib.hid (laid_keeps (HK4.out.trans HK9.out) HC10.out)
          have hg17 : w.heap.size ≤ W9.heap.size := (HK4.out.trans HK9.out).size
          generalize W9.heap.size = g17 at *
          clear HC10 HK4 HK9 H13c HNUM
          rcases HCA.out with ⟨rfl, rfl⟩ | ⟨rfl, rfl, rfl⟩ | ⟨rfl, rfl, rfl, hset, rfl⟩ | ⟨rfl, rfl, rfl, rfl⟩ | ⟨rfl, rfl, rfl, rfl⟩
          · skip
            refine wp_region_quiet_below (by kernel_rfl) (by kernel_rfl) ?_
            repeat (first | go_big_quiet_skip | (refine BigFrame.wpQuiet_want (by kernel_rfl) (fun K hK => quiet_load_row 23 (.tmp 17) (by with_reducible rfl) g17 0 rfl (N.map (Value.int .u8)) _ (H10.out).cls Tryd.underlying23 rfl (sz_n32 N hnl) (hK _ ?_)); simp only [Act.put, List.setIfInBounds_toArray, List.set_cons_zero, List.set_cons_succ]) | go_big_quiet_step (first | (go_at_call 27; exact rgB (HLI.out _)) | (go_at_call 8; exact rgB (HCMP.out _))) | quiet_step (first | (go_at_call 27; exact rgB (HLI.out _)) | (go_at_call 8; exact rgB (HCMP.out _))))
            refine wpQuiet_nil ?_
            intro _ hw'
            obtain ⟨⟨dq, osq⟩, hw''⟩ := hw'
            subst hw''
            have hkq := below_regrown w10 dq osq
            generalize Go.Sort.grow (redrawn w10 dq) osq = wq at *
            have HK11 := Lib.hid (HK10.out.trans hkq); have H11 := Lib.hid (H10.out.keeps hkq)
            clear hkq HK10 H10
            go_upto_region 24 with (first | (go_at_call 27; refine (HLI.out _).mono ?_; rintro e W12 ⟨rfl, hk12⟩; have HK12 := Lib.hid (HK11.out.trans hk12); have H12 := Lib.hid (H11.out.keeps hk12); clear hk12) | (refine wpList_store_row rfl 23 (.tmp 17) (.tmp 87) rfl g17 0 rfl _ (LB.map (Value.int .u8)) rfl H12.out (by simp [hll, hnl]) (sz_n32 LB hll) (int_oneCell _) ?_; intro w13 hr13 hc13; have H13 := Lib.hid hr13; have HC13 := Lib.hid hc13; clear hr13 hc13))
            have HK13 := Lib.hid (keeps_chg HK12.out HC13.out hg17)
            go_wp2_with (first | (refine wpList_load_at rfl 23 (.tmp 17) rfl g17 0 rfl (LB.map (Value.int .u8)) _ H13.out Tryd.underlying23 rfl (sz_n32 LB hll) ?_) | (refine wpList_eql (by kernel_rfl) 23 23 (.tmp 88) (.tmp 89) rfl _ _ rfl rfl false HEL.out (by kernel_rfl) ?_) | (go_at_call 13; refine (HB1.out _).mono ?_; rintro e W15 ⟨rfl, hk15⟩; have HK15 := Lib.hid hk15; clear hk15))
            go_ret
            exact ⟨rfl, HK13.out.trans HK15.out⟩
          · skip
            refine wp_region_quiet_below (by kernel_rfl) (by kernel_rfl) ?_
            repeat (first | go_big_quiet_skip | (refine BigFrame.wpQuiet_want (by kernel_rfl) (fun K hK => quiet_load_row 23 (.tmp 17) (by with_reducible rfl) g17 0 rfl (N.map (Value.int .u8)) _ (H10.out).cls Tryd.underlying23 rfl (sz_n32 N hnl) (hK _ ?_)); simp only [Act.put, List.setIfInBounds_toArray, List.set_cons_zero, List.set_cons_succ]) | go_big_quiet_step (first | (go_at_call 27; exact rgB (HLI.out _)) | (go_at_call 8; exact rgB (HCMP.out _))) | quiet_step (first | (go_at_call 27; exact rgB (HLI.out _)) | (go_at_call 8; exact rgB (HCMP.out _))))
            refine wpQuiet_nil ?_
            intro _ hw'
            obtain ⟨⟨dq, osq⟩, hw''⟩ := hw'
            subst hw''
            have hkq := below_regrown w10 dq osq
            generalize Go.Sort.grow (redrawn w10 dq) osq = wq at *
            have HK11 := Lib.hid (HK10.out.trans hkq); have H11 := Lib.hid (H10.out.keeps hkq)
            clear hkq HK10 H10
            go_upto_region 24 with (first | (go_at_call 27; refine (HLI.out _).mono ?_; rintro e W12 ⟨rfl, hk12⟩; have HK12 := Lib.hid (HK11.out.trans hk12); have H12 := Lib.hid (H11.out.keeps hk12); clear hk12) | (refine wpList_store_row rfl 23 (.tmp 17) (.tmp 87) rfl g17 0 rfl _ (LB.map (Value.int .u8)) rfl H12.out (by simp [hll, hnl]) (sz_n32 LB hll) (int_oneCell _) ?_; intro w13 hr13 hc13; have H13 := Lib.hid hr13; have HC13 := Lib.hid hc13; clear hr13 hc13))
            have HK13 := Lib.hid (keeps_chg HK12.out HC13.out hg17)
            go_wp2_with (first | (refine wpList_load_at rfl 23 (.tmp 17) rfl g17 0 rfl (LB.map (Value.int .u8)) _ H13.out Tryd.underlying23 rfl (sz_n32 LB hll) ?_) | (refine wpList_eql (by kernel_rfl) 23 23 (.tmp 88) (.tmp 89) rfl _ _ rfl rfl false HEL.out (by kernel_rfl) ?_) | (go_at_call 13; refine (HB1.out _).mono ?_; rintro e W15 ⟨rfl, hk15⟩; have HK15 := Lib.hid hk15; clear hk15))
            go_ret
            exact ⟨rfl, HK13.out.trans HK15.out⟩
          · skip
            refine wp_region_quiet_below (by kernel_rfl) (by kernel_rfl) ?_
            repeat (first | go_big_quiet_skip | (refine BigFrame.wpQuiet_want (by kernel_rfl) (fun K hK => quiet_load_row 23 (.tmp 17) (by with_reducible rfl) g17 0 rfl (N.map (Value.int .u8)) _ (H10.out).cls Tryd.underlying23 rfl (sz_n32 N hnl) (hK _ ?_)); simp only [Act.put, List.setIfInBounds_toArray, List.set_cons_zero, List.set_cons_succ]) | go_big_quiet_step (first | (go_at_call 27; exact rgB (HLI.out _)) | (go_at_call 8; exact rgB (HCMP.out _))) | quiet_step (first | (go_at_call 27; exact rgB (HLI.out _)) | (go_at_call 8; exact rgB (HCMP.out _))))
            refine wpQuiet_nil ?_
            intro _ hw'
            obtain ⟨⟨dq, osq⟩, hw''⟩ := hw'
            subst hw''
            have hkq := below_regrown w10 dq osq
            generalize Go.Sort.grow (redrawn w10 dq) osq = wq at *
            have hk11 := HK10.out.trans hkq; have h11 := H10.out.keeps hkq
            have c31 := h11.int0 31 (by omega)
            have f31 := h11.free0 31 (by rw [List.length_map]; omega)
            have h13 := h11.setInt0 31 (by omega) 1
            rw [hset] at h13
            have HK13 := Lib.hid (keeps_set hk11 hg17 (i := 31) (.int .u8 1)); have H13 := Lib.hid h13; have H11 := Lib.hid h11
            clear hkq HK10 H10 hk11 h11 h13
            generalize N.getD 31 0 = old at *
            go_wp2_with (first | (refine wpList_load_at rfl 23 (.tmp 17) rfl g17 0 rfl (N.map (Value.int .u8)) _ H11.out Tryd.underlying23 rfl (sz_n32 N hnl) ?_) | (refine wpList_load_at rfl 23 (.tmp 17) rfl g17 0 rfl (O1.map (Value.int .u8)) _ H13.out Tryd.underlying23 rfl (sz_n32 O1 hol) ?_) | (refine wpList_eql (by kernel_rfl) 23 23 (.tmp 88) (.tmp 89) rfl _ _ rfl rfl true HE.out (by kernel_rfl) ?_) | (go_at_call 13; refine (HB2.out _).mono ?_; rintro e W15 ⟨rfl, hk15⟩; have HK15 := Lib.hid hk15; clear hk15))
            go_ret
            exact ⟨rfl, HK13.out.trans HK15.out⟩
          · skip
            refine wp_region_quiet_below (by kernel_rfl) (by kernel_rfl) ?_
            repeat (first | go_big_quiet_skip | (refine BigFrame.wpQuiet_want (by kernel_rfl) (fun K hK => quiet_load_row 23 (.tmp 17) (by with_reducible rfl) g17 0 rfl (N.map (Value.int .u8)) _ (H10.out).cls Tryd.underlying23 rfl (sz_n32 N hnl) (hK _ ?_)); simp only [Act.put, List.setIfInBounds_toArray, List.set_cons_zero, List.set_cons_succ]) | go_big_quiet_step (first | (go_at_call 27; exact rgB (HLI.out _)) | (go_at_call 8; exact rgB (HCMP.out _))) | quiet_step (first | (go_at_call 27; exact rgB (HLI.out _)) | (go_at_call 8; exact rgB (HCMP.out _))))
            refine wpQuiet_nil ?_
            intro _ hw'
            obtain ⟨⟨dq, osq⟩, hw''⟩ := hw'
            subst hw''
            have hkq := below_regrown w10 dq osq
            generalize Go.Sort.grow (redrawn w10 dq) osq = wq at *
            have HK11 := Lib.hid (HK10.out.trans hkq); have H11 := Lib.hid (H10.out.keeps hkq)
            clear hkq HK10 H10
            go_wp2_with (first | (refine wpList_load_at rfl 23 (.tmp 17) rfl g17 0 rfl (N.map (Value.int .u8)) _ H11.out Tryd.underlying23 rfl (sz_n32 N hnl) ?_) | (refine wpList_eql (by kernel_rfl) 23 23 (.tmp 88) (.tmp 89) rfl _ _ rfl rfl false HE.out (by kernel_rfl) ?_) | (go_at_call 13; refine (HB3.out _).mono ?_; rintro e W15 ⟨rfl, hk15⟩; have HK15 := Lib.hid hk15; clear hk15))
            go_ret
            exact ⟨rfl, HK11.out.trans HK15.out⟩
          · skip
            refine wp_region_quiet_below (by kernel_rfl) (by kernel_rfl) ?_
            repeat (first | go_big_quiet_skip | (refine BigFrame.wpQuiet_want (by kernel_rfl) (fun K hK => quiet_load_row 23 (.tmp 17) (by with_reducible rfl) g17 0 rfl (N.map (Value.int .u8)) _ (H10.out).cls Tryd.underlying23 rfl (sz_n32 N hnl) (hK _ ?_)); simp only [Act.put, List.setIfInBounds_toArray, List.set_cons_zero, List.set_cons_succ]) | go_big_quiet_step (first | (go_at_call 27; exact rgB (HLI.out _)) | (go_at_call 8; exact rgB (HCMP.out _))) | quiet_step (first | (go_at_call 27; exact rgB (HLI.out _)) | (go_at_call 8; exact rgB (HCMP.out _))))
            refine wpQuiet_nil ?_
            intro _ hw'
            obtain ⟨⟨dq, osq⟩, hw''⟩ := hw'
            subst hw''
            have hkq := below_regrown w10 dq osq
            generalize Go.Sort.grow (redrawn w10 dq) osq = wq at *
            have HK11 := Lib.hid (HK10.out.trans hkq); have H11 := Lib.hid (H10.out.keeps hkq)
            clear hkq HK10 H10
            go_wp2_with (first | (refine wpList_load_at rfl 23 (.tmp 17) rfl g17 0 rfl (N.map (Value.int .u8)) _ H11.out Tryd.underlying23 rfl (sz_n32 N hnl) ?_) | (refine wpList_eql (by kernel_rfl) 23 23 (.tmp 88) (.tmp 89) rfl _ _ rfl rfl false HE.out (by kernel_rfl) ?_) | (go_at_call 13; refine (HB3.out _).mono ?_; rintro e W15 ⟨rfl, hk15⟩; have HK15 := Lib.hid hk15; clear hk15))
            go_ret
            exact ⟨rfl, HK11.out.trans HK15.out⟩
theorem div_great (V : Int) : (4800 ≤ V / N256) ↔ (N256 ≤ V / 4800) := by
  have h : (0 : Int) < N256 := by unfold N256; decide
  rw [Int.le_ediv_iff_mul_le h, Int.le_ediv_iff_mul_le (by decide), Int.mul_comm]
set_option maxRecDepth 100000 in
set_option maxHeartbeats 4000000 in
theorem next_any (x s : Int) (h0 : 0 ≤ x) (h1 : x < 4294967296) (hs0 : -9223372036854775808 ≤ s) (hs1 : s < 9223372036854775808) (w : World) :
    Calls Tryd.prog 17 #[.int .u32 x, .int .i64 s] w fun e w' => e = .returned (.int .u32 (nextRes x s)) ∧ Keeps w w' := by
  have htg := target_any x h0 h1
  have hl9 := tgtRes_length x
  by_cases hs : (target x).isSome = true
  · have he : tgtErr x = 0 := by rw [target_err, if_pos hs]
    rw [he] at htg
    have hcr := clampS_range s
    have hT0 : 0 ≤ be (tgtRes x) := (be_range (tgtRes_bytes x)).1
    have hT1 : be (tgtRes x) < 57896044618658097711785492504343953926634992332820282019728792003956564819968 := by
      obtain ⟨_, _, _, _, h2, _⟩ := target_some hs
      have := limit_small
      omega
    have hmm : max 1200 (min s 19200) = clampS s := by
      rcases clamp_case s with ⟨ha, hb⟩ | ⟨ha, hb, hc⟩ | ⟨ha, hb, hc⟩ <;> omega
    have hV0 : 0 ≤ be (tgtRes x) * clampS s := Int.mul_nonneg hT0 (by omega)
    have hV1 : be (tgtRes x) * clampS s < 18446744073709551616 * N256 := by
      have : be (tgtRes x) * clampS s ≤ 57896044618658097711785492504343953926634992332820282019728792003956564819968 * 19200 := Int.mul_le_mul (by omega) hcr.2 (by omega) (by omega)
      have e : (57896044618658097711785492504343953926634992332820282019728792003956564819968 : Int) * 19200 < 18446744073709551616 * N256 := by unfold N256; decide
      omega
    have hE := fun W => equal_bytes W 23 32 Tryd.underlying23 (toB 32 (be (tgtRes x) * clampS s / 4800)) zero32 (toB_bytes _ _) zero32_bytes (toB_length _ _) zero32_length
    have hEL := fun W => equal_bytes W 23 32 Tryd.underlying23 limitB zero32 limitB_bytes zero32_bytes limitB_length zero32_length
    rw [decide_eq_false limit_nz] at hEL
    have hB4 : (18446744073709551616 : Int) ^ 4 = N256 := by unfold N256; decide
    have hB0 : (0 : Int) < N256 := by unfold N256; decide
    have hlv := next_leaves x s hs _ rfl
    have htop0 : 0 ≤ be (tgtRes x) * clampS s / N256 := Int.ediv_nonneg hV0 (Int.le_of_lt hB0)
    have htop1 : be (tgtRes x) * clampS s / N256 < 18446744073709551616 := Int.ediv_lt_of_lt_mul hB0 hV1
    have hpd : ∀ i, i < 4 → (prodW (be (tgtRes x)) (clampS s) 4).getD i 0 = be (tgtRes x) * clampS s / 18446744073709551616 ^ i % 18446744073709551616 := fun i hi => by rw [prodW_getD _ _ _ _ (by omega), if_pos hi]
    refine next_walk x s (clampS s) (nextRes x s) hs0 hs1 (by omega) hcr.2 hmm (tgtRes x) (words (be (tgtRes x))) (words (be (tgtRes x) * clampS s / 4800)) htg hl9 (words_any _ (tgtRes_bytes x) hl9) (words_length _) (fun i hi => words_range _ i hi)
      (prodW (be (tgtRes x)) (clampS s)) (pc (be (tgtRes x)) (clampS s)) (prodW_length _ _) (prodW_zero _ _) (fun i hi => by rw [prodW_getD _ _ _ _ (by omega), if_neg (by omega), if_pos rfl]) (fun i hi => prodW_set _ (by omega) i hi _ _ rfl rfl) (fun i => pc_range _ (by omega) i) (fun i hi => (pc_step _ _ i hi).1)
      (be (tgtRes x) * clampS s / N256) (by rw [prodW_getD _ _ _ _ (by omega), if_neg (by omega), if_pos rfl, pc_four _ hT0 (by unfold N256; omega)]) htop0 htop1
      (nrest (be (tgtRes x) * clampS s)) (quoW (be (tgtRes x) * clampS s)) (by unfold nrest; rw [hB4]) (quoW_four _) (quoW_length _) (nrest_range _) (fun i hi => by rw [hpd i hi]; exact ⟨Int.emod_nonneg _ (by decide), Int.emod_lt_of_pos _ (by decide)⟩) (fun i hi => by rw [hpd i hi]; exact nrest_step _ i hi) (fun i hi => quoW_set _ i hi) (quoW_zero _) (words_length _)
      (decide (N256 ≤ be (tgtRes x) * clampS s / 4800)) (by rw [decide_eq_decide]; exact div_great _) (toB 32 (be (tgtRes x) * clampS s / 4800)) (toB 32 1) limitB _ _ _ _ _ (number_any _) (toB_length _ _) (toB_length _ _) limitB_length limit_any (bcompare_any _ _ (toB_bytes _ _) limitB_bytes (toB_length _ _) limitB_length) hE hEL (bits_any _ limitB_bytes limitB_length) (bits_any _ (toB_bytes _ _) (toB_length _ _)) (bits_any _ (toB_bytes _ _) (toB_length _ _)) hlv w
  · have he : tgtErr x = 3 := by rw [target_err, if_neg hs]
    have hW : nextRes x s = 545259519 := if_neg hs
    rw [he] at htg
    rw [hW]
    generalize tgtRes x = TT at *
    have HTG := Lib.hid htg
    clear htg he hW hs
    go_enter Tryd.func17, Tryd.ntmps17
    go_upto_region 2 with (first | (go_at_call 11; refine (HTG.out _).mono ?_; rintro e W5 ⟨rfl, hk5⟩; have HK5 := Lib.hid hk5; clear hk5) | (refine wpList_store_row rfl 23 (.tmp 5) (.tmp 21) rfl _ 0 rfl (List.replicate 32 (Value.int .u8 0)) (TT.map (Value.int .u8)) rfl (Row.new _ _ _ rfl) (by simp [hl9]) (sz_n32 TT hl9) (int_oneCell _) ?_; intro w8 hr8 hc8; have H8 := Lib.hid hr8; have HC8 := Lib.hid hc8; clear hr8 hc8))
    have HK8 := Lib.hid (laid_keeps HK5.out HC8.out)
    go_wp2
    go_ret
    exact ⟨rfl, HK8.out⟩
end Go.Proofs.YtdcoiniecmeglaaDoor
