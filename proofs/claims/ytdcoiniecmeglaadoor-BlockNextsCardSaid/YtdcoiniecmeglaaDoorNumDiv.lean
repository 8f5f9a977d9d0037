/- block.divide: a number of words by another one, bit by bit. -/
import Derived.Test.YtdcoiniecmeglaaDoorNumSpec3
import Derived.Test.YtdcoiniecmeglaaDoorNumTgt
namespace Go.Proofs.YtdcoiniecmeglaaDoor
set_option linter.unusedVariables false
set_option linter.unusedSimpArgs false
open Go Go.RowKit

/-- the blocks of the walk -/
structure DivSt (w wr : World) (p : Nat) (A B Z : List Value) (Q R : List Int) : Prop where
  keeps : Keeps w wr
  ra : Row wr p 0 A
  rb : Row wr (p + 1) 0 B
  rz : Row wr (p + 1 + 1) 0 Z
  rq : Row wr (p + 1 + 1 + 1) 0 (Q.map (Value.int .u64))
  rr : Row wr (p + 1 + 1 + 1 + 1) 0 (R.map (Value.int .u64))
theorem DivSt.setR {w wr : World} {p : Nat} {A B Z : List Value} {Q R : List Int} (h : DivSt w wr p A B Z Q R) (hp : w.heap.size ≤ p) (k : Nat) (hk : k < R.length) (u : Int) : DivSt w (wr.setCell ⟨p + 1 + 1 + 1 + 1, k, none⟩ (.int .u64 u)) p A B Z Q (R.set k u) :=
  ⟨keeps_set h.keeps (by omega) _, h.ra.other (by simp; omega) _, h.rb.other (by simp) _, h.rz.other (by simp) _, h.rq.other (by simp) _, h.rr.setInt0 k hk u⟩
theorem DivSt.setQ {w wr : World} {p : Nat} {A B Z : List Value} {Q R : List Int} (h : DivSt w wr p A B Z Q R) (hp : w.heap.size ≤ p) (k : Nat) (hk : k < Q.length) (u : Int) : DivSt w (wr.setCell ⟨p + 1 + 1 + 1, k, none⟩ (.int .u64 u)) p A B Z (Q.set k u) R :=
  ⟨keeps_set h.keeps (by omega) _, h.ra.other (by simp; omega) _, h.rb.other (by simp) _, h.rz.other (by simp) _, h.rq.setInt0 k hk u, h.rr.other (by simp) _⟩
theorem DivSt.drew {w wr : World} {p : Nat} {A B Z : List Value} {Q R : List Int} (h : DivSt w wr p A B Z Q R) : DivSt w wr.drew p A B Z Q R := ⟨keeps_drew1 h.keeps, h.ra.drew, h.rb.drew, h.rz.drew, h.rq.drew, h.rr.drew⟩
theorem DivSt.more {w wr W : World} {p : Nat} {A B Z : List Value} {Q R : List Int} (h : DivSt w wr p A B Z Q R) (hk : Keeps wr W) : DivSt w W p A B Z Q R := ⟨h.keeps.trans hk, h.ra.keeps hk, h.rb.keeps hk, h.rz.keeps hk, h.rq.keeps hk, h.rr.keeps hk⟩
theorem DivSt.chgR {w wr W : World} {p : Nat} {A B Z : List Value} {Q R R' : List Int} (h : DivSt w wr p A B Z Q R) (hp : w.heap.size ≤ p) (hc : Chg (· = p + 1 + 1 + 1 + 1) wr W) (hr : Row W (p + 1 + 1 + 1 + 1) 0 (R'.map (Value.int .u64))) : DivSt w W p A B Z Q R' :=
  ⟨keeps_chg h.keeps hc (by omega), h.ra.chg hc (by omega), h.rb.chg hc (by omega), h.rz.chg hc (by omega), h.rq.chg hc (by omega), hr⟩
theorem sz_w4 (l : List Int) (h : l.length = 4) : (Tryd.prog.info? 52).map (·.size) = some (l.map (Value.int .u64)).length := by rw [List.length_map, h]; exact sz_words
set_option maxRecDepth 100000 in
set_option maxHeartbeats 4000000 in
theorem divide_walk (AW BW RES : List Int) (RW VW QW SW : Nat → List Int) (MW : Nat → Nat → List Int) (OV BO BT : Nat → Int) (LE : Nat → Prop) [∀ i, Decidable (LE i)]
    (hal : AW.length = 4) (hbl : BW.length = 4) (HBIT : Hid (∀ i, i < 256 → AW.getD (i / 64) 0 / 2 ^ (i % 64) % 2 = BT i)) (HAR : Hid (∀ k, k < 4 → 0 ≤ AW.getD k 0 ∧ AW.getD k 0 < 18446744073709551616))
    (HBR : Hid (∀ i, 0 ≤ BT i ∧ BT i ≤ 1)) (HRL : Hid (∀ n, (RW n).length = 4)) (HRR : Hid (∀ n k, k < 4 → 0 ≤ (RW n).getD k 0 ∧ (RW n).getD k 0 < 18446744073709551616))
    (HOV : Hid (∀ n, (RW n).getD 3 0 / 9223372036854775808 = OV n)) (HOR : Hid (∀ n, 0 ≤ OV n ∧ OV n ≤ 1))
    (HVS : Hid (∀ i k, k < 3 → (VW i).getD (k + 1) 0 = (RW (i + 1)).getD (k + 1) 0 * 2 % 18446744073709551616 + (RW (i + 1)).getD k 0 / 9223372036854775808))
    (HVL : Hid (∀ i, (VW i).getD 0 0 = (RW (i + 1)).getD 0 0 * 2 % 18446744073709551616 + BT i)) (HVN : Hid (∀ i, (VW i).length = 4))
    (HM1 : Hid (∀ i k, k ≤ 4 → (MW i k).length = 4)) (HM2 : Hid (∀ i, MW i 4 = RW (i + 1))) (HM3 : Hid (∀ i, MW i 0 = VW i))
    (HM4 : Hid (∀ i k j, j < k → k ≤ 4 → (MW i k).getD j 0 = (RW (i + 1)).getD j 0)) (HM5 : Hid (∀ i k, k < 4 → (MW i (k + 1)).set k ((VW i).getD k 0) = MW i k))
    (HSUB : Hid (∀ i w, Calls Tryd.prog 46 #[.agg ((VW i).map (Value.int .u64)).toArray, .agg (BW.map (Value.int .u64)).toArray] w fun e w' => e = .returned (.tuple #[.agg ((SW i).map (Value.int .u64)).toArray, .int .u64 (BO i)]) ∧ Keeps w w'))
    (HSL : Hid (∀ i, (SW i).length = 4)) (HLESS : Hid (∀ i, (OV (i + 1) = 1 ∨ BO i = 0) ↔ LE i))
    (HYES : Hid (∀ i, i < 256 → LE i → SW i = RW i ∧ (QW (i + 1)).set (i / 64) ((QW (i + 1)).getD (i / 64) 0 + 2 ^ (i % 64)) = QW i ∧ (QW (i + 1)).getD (i / 64) 0 % 2 ^ (i % 64 + 1) = 0))
    (HNO : Hid (∀ i, ¬ LE i → VW i = RW i ∧ QW (i + 1) = QW i))
    (HQR : Hid (∀ n k, k < 4 → 0 ≤ (QW n).getD k 0 ∧ (QW n).getD k 0 < 18446744073709551616)) (HQL : Hid (∀ n, (QW n).length = 4))
    (HT1 : Hid (RW 256 = [0, 0, 0, 0])) (HT2 : Hid (QW 256 = [0, 0, 0, 0])) (HE : Hid (QW 0 = RES)) (w : World) :
    Calls Tryd.prog 30 #[.agg (AW.map (Value.int .u64)).toArray, .agg (BW.map (Value.int .u64)).toArray] w fun e w' => e = .returned (.agg (RES.map (Value.int .u64)).toArray) ∧ Keeps w w' := by
  have hzA := sz_w4 AW hal
  have hzB := sz_w4 BW hbl
  go_enter Tryd.func30, Tryd.ntmps30
  go_upto_region 1 with (fail)
  refine wp_rows3 (fun W hk hra hrb hr2 hs => ?_)
  obtain ⟨p, hp⟩ : ∃ p, p = w.heap.size := ⟨_, rfl⟩
  rw [← hp] at hra hrb hr2 hs ⊢
  have hkp : w.heap.size ≤ p := by omega
  obtain ⟨Z, hZ, hrz⟩ : ∃ Z : List Value, Z.length = 4 ∧ Row W (p + 1 + 1) 0 Z := ⟨_, rfl, hr2⟩
  have HRA := Lib.hid (show Row W p 0 (AW.map (Value.int .u64)) from hra); have HRB := Lib.hid (show Row W (p + 1) 0 (BW.map (Value.int .u64)) from hrb); have HRZ := Lib.hid hrz; have HK := Lib.hid hk
  have HS := Lib.hid (show W.heap.size = p + 1 + 1 + 1 from hs)
  clear hp hra hrb hr2 hrz hk hs
  go_upto_region 2 with (fail)
  refine wp_rows2 (fun W2 hk hr5 hr6 hs => ?_)
  rw [HS.out] at hr5 hr6 hs ⊢
  have hst : DivSt w W2 p (AW.map (Value.int .u64)) (BW.map (Value.int .u64)) Z (QW 256) (RW 256) := ⟨HK.out.trans hk, HRA.out.keeps hk, HRB.out.keeps hk, HRZ.out.keeps hk, by rw [HT2.out]; exact hr5, by rw [HT1.out]; exact hr6⟩
  have HST := Lib.hid hst
  clear HRA HRB HRZ HK HS hk hr5 hr6 hs hst HT1 HT2
  go_wp2
  go_loopw [7] (fun c wr => ∃ n : Nat, n ≤ 256 ∧ c = .int .i64 ((n : Int) - 1) ∧ DivSt w wr p (AW.map (Value.int .u64)) (BW.map (Value.int .u64)) Z (QW n) (RW n)) (fun c _ => (intOf c + 1).toNat)
  case atStart => exact ⟨256, by omega, rfl, HST.out⟩
  case round =>
    obtain ⟨n, hn, rfl, hst⟩ := hrel
    clear HST
    have HST := Lib.hid hst
    clear hst
    cases n with
    | zero =>
      have hq0 := HE.out
      have hrl := HQL.out 0
      rw [hq0] at HST hrl
      clear hq0 HE
      have hzR := sz_w4 RES hrl
      rw [show ((0 : Nat) : Int) - 1 = -1 by rfl]
      go_wp2_with (first | (refine wpList_load_at rfl 52 (.tmp 5) rfl (p + 1 + 1 + 1) 0 rfl (RES.map (Value.int .u64)) _ HST.out.rq Tryd.underlying52 rfl hzR ?_) | (refine wpList_store_row rfl 52 (.tmp 4) (.tmp 70) rfl (p + 1 + 1) 0 rfl Z (RES.map (Value.int .u64)) rfl HST.out.rz (by simp [hrl, hZ]) hzR (int_oneCell _) ?_; intro w9 hr9 hc9; have H9 := Lib.hid hr9; have HC9 := Lib.hid hc9; clear hr9 hc9))
      exact bodyPost_ret (v := .agg (RES.map (Value.int .u64)).toArray) (results_cell_at (p := 4) (ty := 52) rfl _ _ (p + 1 + 1) 0 _ _ rfl H9.out Tryd.underlying52 rfl hzR) rfl ⟨rfl, keeps_chg HST.out.keeps HC9.out (by omega)⟩
    | succ i =>
      rw [show ((i + 1 : Nat) : Int) - 1 = (i : Int) by omega]
      have hi : i < 256 := by omega
      have c3 := HST.out.rr.int0 3 (by rw [HRL.out]; omega)
      have hov := HOV.out (i + 1)
      obtain ⟨r0, r1⟩ := HRR.out (i + 1) 3 (by omega)
      generalize (RW (i + 1)).getD 3 0 = x3 at *
      obtain ⟨o0, o1⟩ := HOR.out (i + 1)
      have HLE := Lib.hid (HLESS.out i)
      generalize OV (i + 1) = ov at *
      go_wp2
      go_loopw [9] (fun c wr2 => ∃ k : Nat, k ≤ 3 ∧ c = .int .i64 k ∧ DivSt w wr2 p (AW.map (Value.int .u64)) (BW.map (Value.int .u64)) Z (QW (i + 1)) (MW i (k + 1))) (fun c _ => (intOf c).toNat)
      case atStart => exact ⟨3, by omega, rfl, by rw [HM2.out]; exact HST.out⟩
      case round =>
        obtain ⟨k, hk, rfl, hst⟩ := hrel
        clear HST c3 hov r0 r1
        have HST := Lib.hid hst
        clear hst
        cases k with
        | zero =>
          obtain ⟨j, hj⟩ : ∃ j : Nat, j = i / 64 := ⟨_, rfl⟩
          obtain ⟨s, hs⟩ : ∃ s : Nat, s = i % 64 := ⟨_, rfl⟩
          have hj4 : j < 4 := by omega
          have hs64 : s < 64 := by omega
          have hq1 : (i : Int).tdiv 64 = j := by rw [Int.tdiv_eq_ediv_of_nonneg (by omega)]; omega
          have hq2 : (i : Int).tmod 64 = s := by rw [Int.tmod_eq_emod_of_nonneg (by omega)]; omega
          have c1 := HST.out.rr.int0 0 (by rw [HM1.out i _ (by omega)]; omega)
          have f1 := HST.out.rr.free0 0 (by rw [List.length_map, HM1.out i _ (by omega)]; omega)
          have ca := HST.out.ra.int0 j (by omega)
          rw [HM4.out i _ 0 (by omega) (by omega)] at c1
          have hset := HST.out.setR hkp 0 (by rw [HM1.out i _ (by omega)]; omega) ((VW i).getD 0 0)
          rw [HM5.out i 0 (by omega), HVL.out i, HM3.out] at hset
          have hbit := HBIT.out i hi
          rw [← hj, ← hs] at hbit
          obtain ⟨a0, a1⟩ := HAR.out j hj4
          obtain ⟨b0, b1⟩ := HBR.out i
          have HY := Lib.hid (HYES.out i hi); have HN := Lib.hid (HNO.out i)
          rw [← hj, ← hs] at HY
          generalize (RW (i + 1)).getD 0 0 = x at *
          generalize AW.getD j 0 = xa at *
          generalize BT i = bt at *
          have hxa : 0 ≤ xa / 2 ^ s := Int.ediv_nonneg a0 (Int.pow_nonneg (by decide))
          have hxa2 : xa / 2 ^ s < 18446744073709551616 := Int.lt_of_le_of_lt (Int.ediv_le_self _ a0) a1
          have hand : bits .and .u64 (xa / 2 ^ s) 1 = bt := by
            have := bits_mask .u64 64 (by decide) w64_wraps 1 (by decide) (xa / 2 ^ s) hxa hxa2
            rw [← hbit]
            simpa using this
          have hw : IntKind.u64.wrap (x * 2) = x * 2 % 18446744073709551616 := by rw [IntKind.wrap_u64]
          have hor := u64_join 1 (x * 2 % 18446744073709551616) bt (by omega) (by omega) (by omega) (by omega) (by omega) (by omega)
          have HSET := Lib.hid hset
          have HJ := Lib.hid hj; have HS := Lib.hid hs; have HBT := Lib.hid hbit
          clear hset hj hs hbit hxa hxa2
          go_wp2
          go_region
          go_upto_region 11 with (fail)
          refine wp_gen (fun W' => DivSt w W' p (AW.map (Value.int .u64)) (BW.map (Value.int .u64)) Z (QW (i + 1)) (VW i)) HSET.out.drew (fun w10 hst10 => ?_)
          have hsub := HSUB.out i
          have hbo : BO i = BO i := rfl
          have hvn := HVN.out i
          have hsl := HSL.out i
          have hzV := sz_w4 (VW i) hvn
          have HTEN := Lib.hid hst10
          have HQ1 := Lib.hid hq1; have HQ2 := Lib.hid hq2
          clear HSET HST c1 f1 ca hor hand hw hq1 hq2 hst10 hbo
          generalize VW i = V at *
          generalize SW i = SWi at *
          generalize BO i = bo at *
          have hzS := sz_w4 SWi hsl
          have HSUB2 := Lib.hid hsub
          clear hsub
          go_upto_region 12 with (first | (refine wpList_load_at rfl 52 (.tmp 6) rfl (p + 1 + 1 + 1 + 1) 0 rfl (V.map (Value.int .u64)) _ HTEN.out.rr Tryd.underlying52 rfl hzV ?_) | (refine wpList_load_at rfl 52 (.tmp 3) rfl (p + 1) 0 rfl (BW.map (Value.int .u64)) _ HTEN.out.rb Tryd.underlying52 rfl hzB ?_) | (go_at_call 46; refine (HSUB2.out _).mono ?_; rintro e w11 ⟨rfl, hk11⟩; have HK11 := Lib.hid hk11; clear hk11) | (refine wpList_store_row rfl 52 (.tmp 10) (.tmp 52) rfl _ 0 rfl [.int .u64 0, .int .u64 0, .int .u64 0, .int .u64 0] (SWi.map (Value.int .u64)) rfl (Row.new _ _ _ rfl) (by simp [hsl]) hzS (int_oneCell _) ?_; intro w12 hr12 hc12; have HR12 := Lib.hid hr12; have HC12 := Lib.hid hc12; clear hr12 hc12))
          have hst12 := HTEN.out.more (keeps_chg (keeps_alloc HK11.out _) HC12.out HK11.out.size)
          obtain ⟨g, hg⟩ : ∃ g, g = w11.heap.size := ⟨_, rfl⟩
          rw [← hg] at HR12 ⊢
          have HTW := Lib.hid hst12
          clear HC12 hg HK11 HTEN hst12
          by_cases hle : LE i
          · obtain ⟨hy1, hy2, hy3⟩ := HY.out hle
            have hql := HQL.out (i + 1)
            obtain ⟨q0, q1⟩ := HQR.out (i + 1) j hj4
            have hcnd := HLE.out.2 hle
            have HY1 := Lib.hid hy1
            generalize QW (i + 1) = Q at *
            clear HLE HY HN hy1
            by_cases h1 : ov = 1
            · subst h1
              go_upto_region 14 with (first | (refine wpList_load_at rfl 52 (.tmp 10) rfl g 0 rfl (SWi.map (Value.int .u64)) _ HR12.out Tryd.underlying52 rfl hzS ?_) | (refine wpList_store_row rfl 52 (.tmp 6) (.tmp 60) rfl (p + 1 + 1 + 1 + 1) 0 rfl _ (SWi.map (Value.int .u64)) rfl HTW.out.rr (by simp [hsl, hvn]) hzS (int_oneCell _) ?_; intro w13 hr13 hc13; have HR13 := Lib.hid hr13; have HC13 := Lib.hid hc13; clear hr13 hc13))
              have hst13 := HTW.out.chgR hkp HC13.out HR13.out
              have c5 := hst13.rq.int0 j (by omega)
              have f5 := hst13.rq.free0 j (by rw [List.length_map]; omega)
              have hset := hst13.setQ hkp j (by omega) (Q.getD j 0 + 2 ^ s)
              rw [hy2] at hset
              have HSET := Lib.hid hset
              have hq1 := HQ1.out
              have hq2 := HQ2.out
              have hp0 : (0 : Int) < 2 ^ s := two_pos s
              have hp1 : (2 : Int) ^ s < 18446744073709551616 := by
                have : (2 : Int) ^ s * 2 ^ (64 - s) = 18446744073709551616 := by rw [← Int.pow_add, show s + (64 - s) = 64 by omega]; rfl
                have h2 := two_pos (64 - s - 1)
                have h3 : (2 : Int) ^ (64 - s) = 2 * 2 ^ (64 - s - 1) := by rw [← Int.pow_succ']; congr 1; omega
                have h4 : (2 : Int) ^ s * 1 ≤ 2 ^ s * 2 ^ (64 - s - 1) := Int.mul_le_mul_of_nonneg_left (by omega) (Int.le_of_lt hp0)
                rw [h3, Int.mul_left_comm] at this
                omega
              have hp2 : (2 : Int) ^ s < 2 ^ (s + 1) := by rw [Int.pow_succ]; omega
              have hor := u64_join (s + 1) (Q.getD j 0) (2 ^ s) q0 hy3 q1 (Int.le_of_lt hp0) hp2 hp1
              have hsh : IntKind.u64.wrap (1 * 2 ^ s) = 2 ^ s := by rw [Int.one_mul, IntKind.wrap_u64, Int.emod_eq_of_lt (Int.le_of_lt hp0) hp1]
              have hsh2 : IntKind.u64.wrap (2 ^ s) = 2 ^ s := by rw [IntKind.wrap_u64, Int.emod_eq_of_lt (Int.le_of_lt hp0) hp1]
              clear hset hst13 hy2 hy3 HR13 HC13 HR12 HTW hp2
              generalize Q.getD j 0 = q at *
              have HP2 := Lib.hid hp0
              generalize hPP : (2 : Int) ^ s = P at *
              go_wp2
              go_region
              go_wp2
              go_roundw
              case rel => exact ⟨i, by omega, by go_num, by rw [← HY1.out]; exact HSET.out.drew⟩
              case measure => simp [intOf]
            · have h2 : bo = 0 := hcnd.resolve_left h1
              subst h2
              have hd1 : (ov == 1) = false := by simpa using h1
              go_upto_region 14 with (first | (refine wpList_load_at rfl 52 (.tmp 10) rfl g 0 rfl (SWi.map (Value.int .u64)) _ HR12.out Tryd.underlying52 rfl hzS ?_) | (refine wpList_store_row rfl 52 (.tmp 6) (.tmp 60) rfl (p + 1 + 1 + 1 + 1) 0 rfl _ (SWi.map (Value.int .u64)) rfl HTW.out.rr (by simp [hsl, hvn]) hzS (int_oneCell _) ?_; intro w13 hr13 hc13; have HR13 := Lib.hid hr13; have HC13 := Lib.hid hc13; clear hr13 hc13))
              have hst13 := HTW.out.chgR hkp HC13.out HR13.out
              have c5 := hst13.rq.int0 j (by omega)
              have f5 := hst13.rq.free0 j (by rw [List.length_map]; omega)
              have hset := hst13.setQ hkp j (by omega) (Q.getD j 0 + 2 ^ s)
              rw [hy2] at hset
              have HSET := Lib.hid hset
              have hq1 := HQ1.out
              have hq2 := HQ2.out
              have hp0 : (0 : Int) < 2 ^ s := two_pos s
              have hp1 : (2 : Int) ^ s < 18446744073709551616 := by
                have : (2 : Int) ^ s * 2 ^ (64 - s) = 18446744073709551616 := by rw [← Int.pow_add, show s + (64 - s) = 64 by omega]; rfl
                have h2 := two_pos (64 - s - 1)
                have h3 : (2 : Int) ^ (64 - s) = 2 * 2 ^ (64 - s - 1) := by rw [← Int.pow_succ']; congr 1; omega
                have h4 : (2 : Int) ^ s * 1 ≤ 2 ^ s * 2 ^ (64 - s - 1) := Int.mul_le_mul_of_nonneg_left (by omega) (Int.le_of_lt hp0)
                rw [h3, Int.mul_left_comm] at this
                omega
              have hp2 : (2 : Int) ^ s < 2 ^ (s + 1) := by rw [Int.pow_succ]; omega
              have hor := u64_join (s + 1) (Q.getD j 0) (2 ^ s) q0 hy3 q1 (Int.le_of_lt hp0) hp2 hp1
              have hsh : IntKind.u64.wrap (1 * 2 ^ s) = 2 ^ s := by rw [Int.one_mul, IntKind.wrap_u64, Int.emod_eq_of_lt (Int.le_of_lt hp0) hp1]
              have hsh2 : IntKind.u64.wrap (2 ^ s) = 2 ^ s := by rw [IntKind.wrap_u64, Int.emod_eq_of_lt (Int.le_of_lt hp0) hp1]
              clear hset hst13 hy2 hy3 HR13 HC13 HR12 HTW hp2
              generalize Q.getD j 0 = q at *
              have HP2 := Lib.hid hp0
              generalize hPP : (2 : Int) ^ s = P at *
              go_wp2
              go_region
              go_wp2
              go_roundw
              case rel => exact ⟨i, by omega, by go_num, by rw [← HY1.out]; exact HSET.out.drew⟩
              case measure => simp [intOf]
          · obtain ⟨hn1, hn2⟩ := HN.out hle
            have hcnd : ¬ (ov = 1 ∨ bo = 0) := fun h => hle (HLE.out.1 h)
            have h1 : ¬ ov = 1 := fun h => hcnd (.inl h)
            have h2 : ¬ bo = 0 := fun h => hcnd (.inr h)
            have hd1 : (ov == 1) = false := by simpa using h1
            have hd2 : (bo == 0) = false := by simpa using h2
            rw [hn1, hn2] at HTW
            clear HLE HY HN hn1 hn2 hcnd
            go_wp2
            go_roundw
            case rel => exact ⟨i, by omega, by go_num, HTW.out⟩
            case measure => simp [intOf]
        | succ k =>
          have c1 := HST.out.rr.int0 (k + 1) (by rw [HM1.out i _ (by omega)]; omega)
          have c2 := HST.out.rr.int0 k (by rw [HM1.out i _ (by omega)]; omega)
          have f1 := HST.out.rr.free0 (k + 1) (by rw [List.length_map, HM1.out i _ (by omega)]; omega)
          rw [HM4.out i _ (k + 1) (by omega) (by omega)] at c1
          rw [HM4.out i _ k (by omega) (by omega)] at c2
          have hset := HST.out.setR hkp (k + 1) (by rw [HM1.out i _ (by omega)]; omega) ((VW i).getD (k + 1) 0)
          rw [HM5.out i (k + 1) (by omega), HVS.out i k (by omega)] at hset
          obtain ⟨y0, y1⟩ := HRR.out (i + 1) k (by omega)
          generalize (RW (i + 1)).getD (k + 1) 0 = x at *
          generalize (RW (i + 1)).getD k 0 = y at *
          have hw : IntKind.u64.wrap (x * 2) = x * 2 % 18446744073709551616 := by rw [IntKind.wrap_u64]
          have hj := u64_join 1 (x * 2 % 18446744073709551616) (y / 9223372036854775808) (by omega) (by omega) (by omega) (by omega) (by omega) (by omega)
          have HSET := Lib.hid hset
          clear hset
          go_wp2
          go_region
          go_wp2
          go_roundw
          case rel => exact ⟨k, by omega, by go_num, HSET.out.drew⟩
          case measure => simp [intOf]
theorem divide_any (a b : Int) (ha : 0 ≤ a) (ha2 : a < N256) (hb : 0 < b) (hb2 : b < N256) (w : World) :
    Calls Tryd.prog 30 #[.agg ((words a).map (Value.int .u64)).toArray, .agg ((words b).map (Value.int .u64)).toArray] w fun e w' => e = .returned (.agg ((words (a / b)).map (Value.int .u64)).toArray) ∧ Keeps w w' :=
  divide_walk (words a) (words b) (words (a / b)) (fun n => words (drest a b n)) (fun i => words (dnext a b i)) (fun n => words (dwhole a b n)) (fun i => words (dnext a b i - b)) (fun i k => mixW' (drest a b (i + 1)) (dnext a b i) k)
    (dover a b) (fun i => wborrow (dnext a b i) b 4) (bit a) (fun i => b ≤ dnext a b i)
    (words_length a) (words_length b) (Lib.hid (word_bit a)) (Lib.hid (words_range a)) (Lib.hid (bit_range a)) (Lib.hid (fun n => words_length _)) (Lib.hid (fun n => words_range _))
    (Lib.hid (fun _ => rfl)) (Lib.hid (fun n => (dover_eq (a := a) hb hb2 n).2)) (Lib.hid (fun i k hk => words_shift _ _ (bit_range a i) k hk)) (Lib.hid (fun i => words_low _ _ (bit_range a i))) (Lib.hid (fun i => words_length _))
    (Lib.hid (fun i k h => mixW'_length _ _ k h)) (Lib.hid (fun i => rfl)) (Lib.hid (fun i => rfl)) (Lib.hid (fun i k j h h2 => mixW'_getD _ _ k j h h2)) (Lib.hid (fun i k h => mixW_set' _ _ k h))
    (Lib.hid (fun i => wsub_any (dnext a b i) b)) (Lib.hid (fun i => words_length _)) (Lib.hid (dless (a := a) hb hb2))
    (Lib.hid (fun i hi h => ⟨congrArg words (dstep_yes hb i h).1, (dwhole_bit a b i hi).1.trans (congrArg words (dstep_yes hb i h).2), (dwhole_bit a b i hi).2⟩))
    (Lib.hid (fun i h => ⟨congrArg words (dstep_no hb i h).1, congrArg words (dstep_no hb i h).2⟩))
    (Lib.hid (fun n => words_range _)) (Lib.hid (fun n => words_length _)) (Lib.hid (by show words _ = _; rw [(dtop b ha ha2).1]; rfl)) (Lib.hid (by show words _ = _; rw [(dtop b ha ha2).2]; rfl)) (Lib.hid (by show words _ = _; rw [dend])) w
end Go.Proofs.YtdcoiniecmeglaaDoor
