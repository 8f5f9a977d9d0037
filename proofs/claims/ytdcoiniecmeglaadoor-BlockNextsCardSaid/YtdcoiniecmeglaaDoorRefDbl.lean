/- The reference's double and minus. -/
import Derived.Test.YtdcoiniecmeglaaDoorNumSpec4
import Derived.Test.YtdcoiniecmeglaaDoorRefTgt
namespace Go.Proofs.YtdcoiniecmeglaaDoor
set_option linter.unusedVariables false
set_option linter.unusedSimpArgs false
open Go Go.RowKit

theorem Row.wset {w : World} {b : Nat} {zs : List Int} (h : Row w b 0 (zs.map (Value.int .u8))) (i : Nat) (hi : i < zs.length) (u : Int) : Row (w.setCell ⟨b, i, none⟩ (.int .u8 u)) b 0 ((zs.set i u).map (Value.int .u8)) := h.setInt0 i hi u
set_option maxRecDepth 100000 in
set_option maxHeartbeats 4000000 in
theorem double_any (l : List Int) (hb : Bytes l) (hl : l.length = 32) (t : Int) (ht : 0 ≤ t ∧ t ≤ 1) (w : World) :
    Calls Tryd.prog 31 #[.agg (l.map (Value.int .u8)).toArray, .int .u8 t] w fun e w' => e = .returned (.tuple #[.agg ((toB 32 (2 * be l + t)).map (Value.int .u8)).toArray, .bool (decide (N256 ≤ 2 * be l + t))]) ∧ Keeps w w' := by
  have hr := be_range hb
  rw [hl] at hr
  have hA0 := hr.1
  have hA1 : be l < N256 := hr.2
  have HBK := Lib.hid (fun i hi => byteK_be hb hl i hi)
  have HTB := Lib.hid (byteK_toB (2 * be l + t))
  have HST := Lib.hid (fun k => dcar_step (be l) t k (dcar_range (be l) t ht k))
  have HCR := Lib.hid (dcar_range (be l) t ht)
  have HC0 := Lib.hid (dcar_zero (be l) t)
  have htop : decide (N256 ≤ 2 * be l + t) = (dcar (be l) t 32 == 1) := by
    rw [dcar_top t hA0 hA1]
    have h1 : (N256 ≤ 2 * be l + t) ↔ ((2 * be l + t) / N256 = 1) := by
      unfold N256 at *
      omega
    by_cases h : N256 ≤ 2 * be l + t
    · rw [decide_eq_true h, h1.1 h]; rfl
    · rw [decide_eq_false h]; exact (beq_eq_false_iff_ne.2 (fun h2 => h (h1.2 h2))).symm
  have HTOP := Lib.hid htop
  have hbl := toB_length 32 (2 * be l + t)
  clear htop hr hA0 hA1
  generalize decide (N256 ≤ 2 * be l + t) = OV at *
  have HBR := Lib.hid (byteK_range (be l))
  generalize byteK (2 * be l + t) = BV at *
  generalize toB 32 (2 * be l + t) = RR at *
  generalize dcar (be l) t = C at *
  generalize byteK (be l) = BA at *
  have HM1 := Lib.hid (fun i hi => mixB_length (i := i) hl hbl hi)
  have HM2 := Lib.hid (fun i j hi hj => mixB_getD (b := RR) (i := i) (j := j) hl hi hj)
  have HM3 := Lib.hid (fun i hi => mixB_set (i := i) hl hbl hi)
  have HM4 := Lib.hid (mixB_full RR hl hbl)
  have HM5 := Lib.hid (mixB_zero l RR)
  generalize mixB l RR = M at *
  go_enter Tryd.func31, Tryd.ntmps31
  go_upto_region 1 with (fail)
  refine wp_rows2 (fun W hk hr2 hr4 hs => ?_)
  obtain ⟨p, hp⟩ : ∃ p, p = w.heap.size := ⟨_, rfl⟩
  rw [← hp] at hr2 hr4 hs ⊢
  have hkp : w.heap.size ≤ p := by omega
  have HR2 := Lib.hid (show Row W p 0 ((M 32).map (Value.int .u8)) by rw [HM4.out]; exact hr2); have HR4 := Lib.hid (show Row W (p + 1) 0 (zero32.map (Value.int .u8)) from hr4); have HK := Lib.hid hk
  clear hs hr2 hr4 hk hp
  go_wp2
  go_loopw [6, 7] (fun cc c wr => ∃ n : Nat, n ≤ 32 ∧ c = .int .i64 ((n : Int) - 1) ∧ cc = .int .u8 (C (32 - n)) ∧ Keeps w wr ∧ Row wr p 0 ((M n).map (Value.int .u8)) ∧ Row wr (p + 1) 0 (zero32.map (Value.int .u8))) (fun _ c _ => (intOf c + 1).toNat)
  case atStart => exact ⟨32, by omega, rfl, by rw [Nat.sub_self, HC0.out], HK.out, HR2.out, HR4.out⟩
  case round =>
    obtain ⟨n, hn, rfl, rfl, hk, hr2, hr4⟩ := hrel
    cases n with
    | zero =>
      rw [HM5.out] at hr2
      rw [show ((0 : Nat) : Int) - 1 = -1 by rfl, show 32 - 0 = 32 by rfl]
      generalize C 32 = c at *
      have H2 := Lib.hid hr2; have H4 := Lib.hid hr4; have HK2 := Lib.hid hk
      clear hr2 hr4 hk
      go_wp2_with (first | (refine wpList_load_at rfl 22 (.tmp 2) rfl p 0 rfl (RR.map (Value.int .u8)) _ H2.out Tryd.underlying22 rfl (sz_a32 RR hbl) ?_) | (refine wpList_store_row rfl 22 (.tmp 4) (.tmp 27) rfl (p + 1) 0 rfl _ (RR.map (Value.int .u8)) rfl H4.out (by simp [hbl, zero32_length]) (sz_a32 RR hbl) (int_oneCell _) ?_; intro w9 hr9 hc9; have H9 := Lib.hid hr9; have HC9 := Lib.hid hc9; clear hr9 hc9))
      exact bodyPost_ret (v := .tuple #[.agg (RR.map (Value.int .u8)).toArray, .bool (c == 1)]) (results_cell_tmpB (p := 4) (t := 5) (ty := 22) rfl _ _ (p + 1) 0 _ _ _ rfl rfl H9.out Tryd.underlying22 rfl (sz_a32 RR hbl)) rfl ⟨by rw [HTOP.out], keeps_chg HK2.out HC9.out (by omega)⟩
    | succ i =>
      rw [show ((i + 1 : Nat) : Int) - 1 = (i : Int) by omega, show 32 - (i + 1) = 31 - i by omega]
      have hi : i < 32 := by omega
      have c1 := hr2.int0 i (by rw [HM1.out _ hn]; exact hi)
      have f1 := hr2.free0 i (by rw [List.length_map, HM1.out _ hn]; exact hi)
      rw [HM2.out (i + 1) i hn (by omega), HBK.out i hi] at c1
      obtain ⟨s1, s2⟩ := HST.out (31 - i)
      have hset := hr2.wset i (by rw [HM1.out _ hn]; exact hi) (RR.getD i 0)
      rw [HM3.out i hi, HTB.out i hi, s1] at hset
      rw [show 31 - i + 1 = 32 - i by omega] at s2
      obtain ⟨c0, c2⟩ := HCR.out (31 - i)
      obtain ⟨b0, b1⟩ := HBR.out (31 - i)
      have HS2 := Lib.hid s2
      clear s1 s2 hr2
      generalize BA (31 - i) = x at *
      generalize C (31 - i) = c at *
      have ht : x.tdiv 128 = x / 128 := Int.tdiv_eq_ediv_of_nonneg b0
      have hw1 : IntKind.u8.wrap (x * 2) = x * 2 % 256 := by rw [IntKind.wrap_u8]
      have hw2 : IntKind.u8.wrap (x * 2 % 256 + c) = (x * 2 + c) % 256 := by rw [IntKind.wrap_u8]; omega
      have HSET := Lib.hid hset; have H4 := Lib.hid hr4; have HK2 := Lib.hid hk
      clear hset hr4 hk
      go_wp2
      exact ⟨⟨i, by omega, rfl, by rw [HS2.out], keeps_set HK2.out hkp _, HSET.out, H4.out.other (by simp) _⟩, by simp [intOf]⟩
set_option maxRecDepth 100000 in
set_option maxHeartbeats 4000000 in
theorem minus_any (a b : List Int) (ha : Bytes a) (hb : Bytes b) (hla : a.length = 32) (hlb : b.length = 32) (w : World) :
    Calls Tryd.prog 32 #[.agg (a.map (Value.int .u8)).toArray, .agg (b.map (Value.int .u8)).toArray] w fun e w' => e = .returned (.agg ((toB 32 (be a - be b)).map (Value.int .u8)).toArray) ∧ Keeps w w' := by
  have HAK := Lib.hid (fun i hi => byteK_be ha hla i hi)
  have HBK := Lib.hid (fun i hi => byteK_be hb hlb i hi)
  have HTB := Lib.hid (byteK_toB (be a - be b))
  have HST := Lib.hid (mbor_step (be a) (be b))
  have HCR := Lib.hid (mbor_range (be a) (be b))
  have HC0 := Lib.hid (mbor_zero (be a) (be b))
  have hbl := toB_length 32 (be a - be b)
  have HAR := Lib.hid (byteK_range (be a))
  have HBR := Lib.hid (byteK_range (be b))
  generalize byteK (be a - be b) = DV at *
  generalize toB 32 (be a - be b) = RR at *
  generalize mbor (be a) (be b) = C at *
  generalize byteK (be a) = BA at *
  generalize byteK (be b) = BB at *
  have HM1 := Lib.hid (fun i hi => mixB_length (i := i) hla hbl hi)
  have HM2 := Lib.hid (fun i j hi hj => mixB_getD (b := RR) (i := i) (j := j) hla hi hj)
  have HM3 := Lib.hid (fun i hi => mixB_set (i := i) hla hbl hi)
  have HM4 := Lib.hid (mixB_full RR hla hbl)
  have HM5 := Lib.hid (mixB_zero a RR)
  generalize mixB a RR = M at *
  go_enter Tryd.func32, Tryd.ntmps32
  go_upto_region 1 with (fail)
  refine wp_rows3 (fun W hk hra hrb hrz hs => ?_)
  obtain ⟨p, hp⟩ : ∃ p, p = w.heap.size := ⟨_, rfl⟩
  rw [← hp] at hra hrb hrz hs ⊢
  have hkp : w.heap.size ≤ p := by omega
  have HRA := Lib.hid (show Row W p 0 ((M 32).map (Value.int .u8)) by rw [HM4.out]; exact hra); have HRB := Lib.hid (show Row W (p + 1) 0 (b.map (Value.int .u8)) from hrb); have HRZ := Lib.hid (show Row W (p + 1 + 1) 0 (zero32.map (Value.int .u8)) from hrz); have HK := Lib.hid hk
  clear hs hra hrb hrz hk hp
  go_wp2
  go_loopw [5, 6] (fun cc c wr => ∃ n : Nat, n ≤ 32 ∧ c = .int .i64 ((n : Int) - 1) ∧ cc = .int .i64 (C (32 - n)) ∧ Keeps w wr ∧ Row wr p 0 ((M n).map (Value.int .u8)) ∧ Row wr (p + 1) 0 (b.map (Value.int .u8)) ∧ Row wr (p + 1 + 1) 0 (zero32.map (Value.int .u8))) (fun _ c _ => (intOf c + 1).toNat)
  case atStart => exact ⟨32, by omega, rfl, by rw [Nat.sub_self, HC0.out], HK.out, HRA.out, HRB.out, HRZ.out⟩
  case round =>
    obtain ⟨n, hn, rfl, rfl, hk, hra, hrb, hrz⟩ := hrel
    cases n with
    | zero =>
      rw [HM5.out] at hra
      rw [show ((0 : Nat) : Int) - 1 = -1 by rfl, show 32 - 0 = 32 by rfl]
      generalize C 32 = c at *
      have H2 := Lib.hid hra; have H4 := Lib.hid hrz; have HK2 := Lib.hid hk
      clear hra hrz hk hrb
      go_wp2_with (first | (refine wpList_load_at rfl 22 (.tmp 2) rfl p 0 rfl (RR.map (Value.int .u8)) _ H2.out Tryd.underlying22 rfl (sz_a32 RR hbl) ?_) | (refine wpList_store_row rfl 22 (.tmp 4) (.tmp 31) rfl (p + 1 + 1) 0 rfl _ (RR.map (Value.int .u8)) rfl H4.out (by simp [hbl, zero32_length]) (sz_a32 RR hbl) (int_oneCell _) ?_; intro w9 hr9 hc9; have H9 := Lib.hid hr9; have HC9 := Lib.hid hc9; clear hr9 hc9))
      exact bodyPost_ret (v := .agg (RR.map (Value.int .u8)).toArray) (results_cell_at (p := 4) (ty := 22) rfl _ _ (p + 1 + 1) 0 _ _ rfl H9.out Tryd.underlying22 rfl (sz_a32 RR hbl)) rfl ⟨rfl, keeps_chg HK2.out HC9.out (by omega)⟩
    | succ i =>
      rw [show ((i + 1 : Nat) : Int) - 1 = (i : Int) by omega, show 32 - (i + 1) = 31 - i by omega]
      have hi : i < 32 := by omega
      have c1 := hra.int0 i (by rw [HM1.out _ hn]; exact hi)
      have f1 := hra.free0 i (by rw [List.length_map, HM1.out _ hn]; exact hi)
      rw [HM2.out (i + 1) i hn (by omega), HAK.out i hi] at c1
      have cb := hrb.int0 i (by omega)
      rw [HBK.out i hi] at cb
      obtain ⟨s1, s2⟩ := HST.out (31 - i)
      have hset := hra.drew.wset i (by rw [HM1.out _ hn]; exact hi) (RR.getD i 0)
      rw [HM3.out i hi, HTB.out i hi, s1] at hset
      rw [show 31 - i + 1 = 32 - i by omega] at s2
      obtain ⟨c0, c2⟩ := HCR.out (31 - i)
      obtain ⟨b0, b1⟩ := HAR.out (31 - i)
      obtain ⟨b2, b3⟩ := HBR.out (31 - i)
      have hfd := hra.drew.free0 i (by rw [List.length_map, HM1.out _ hn]; exact hi)
      have hcd := hra.drew.int0 i (by rw [HM1.out _ hn]; exact hi)
      rw [HM2.out (i + 1) i hn (by omega), HAK.out i hi] at hcd
      have HFD := Lib.hid hfd; have HCD := Lib.hid hcd
      clear hfd hcd
      have HSET := Lib.hid hset; have H4 := Lib.hid hrz.drew; have HB4 := Lib.hid hrb.drew; have HK2 := Lib.hid (keeps_drew1 hk)
      have HS2 := Lib.hid s2
      clear s1 s2 hra hset hrz hk hrb
      generalize BA (31 - i) = x at *
      generalize BB (31 - i) = y at *
      generalize C (31 - i) = c at *
      go_wp2
      go_region
      clear c1 f1 cb
      have c1 := HCD.out
      have f1 := HFD.out
      clear HCD HFD
      generalize wr.drew = w1 at *
      have hz0 : -256 ≤ x - y - c := by omega
      have hz1 : x - y - c < 256 := by omega
      generalize x - y - c = z at *
      by_cases hneg : z < 0
      · have hm : z % 256 = z + 256 := by omega
        have hd : -(z / 256) = 1 := by omega
        rw [hm] at HSET
        rw [hd] at HS2
        clear hm hd
        have hw : IntKind.u8.wrap (z + 256) = z + 256 := by rw [IntKind.wrap_u8]; omega
        go_wp2
        go_roundw
        case rel => exact ⟨i, by omega, by go_num, by rw [HS2.out], keeps_set HK2.out hkp _, HSET.out, HB4.out.other (by simp) _, H4.out.other (by simp; omega) _⟩
        case measure => simp [intOf]
      · have hm : z % 256 = z := by omega
        have hd : -(z / 256) = 0 := by omega
        rw [hm] at HSET
        rw [hd] at HS2
        clear hm hd
        have hw : IntKind.u8.wrap z = z := by rw [IntKind.wrap_u8]; omega
        go_wp2
        go_roundw
        case rel => exact ⟨i, by omega, by go_num, by rw [HS2.out], keeps_set HK2.out hkp _, HSET.out, HB4.out.other (by simp) _, H4.out.other (by simp; omega) _⟩
        case measure => simp [intOf]
end Go.Proofs.YtdcoiniecmeglaaDoor
