/- block.Work: how much a head stands for. -/
import Derived.Test.YtdcoiniecmeglaaDoorNumDiv
import Derived.Laws.Bits64
namespace Go.Proofs.YtdcoiniecmeglaaDoor
set_option linter.unusedVariables false
set_option linter.unusedSimpArgs false
open Go Go.RowKit

/-- 2^256 by the target and 1 -/
def workRes (x : Int) : List Int := if (target x).isSome then toB 32 (N256 / (be (tgtRes x) + 1)) else zero32
theorem target_err (x : Int) : tgtErr x = if (target x).isSome then 0 else 3 := rfl
theorem target_some {x : Int} (h : (target x).isSome = true) : ∃ e m k, tgtRes x = expB e m k ∧ be (tgtRes x) ≤ be limitB ∧ tgtRes x ≠ zero32 := by
  obtain ⟨n, hn⟩ := Option.isSome_iff_exists.1 h
  have ht : tgtRes x = n := by unfold tgtRes; rw [hn]; rfl
  unfold target at hn
  split at hn
  · cases hn
  · rename_i l hl
    split at hn
    · cases hn
    · rename_i hc
      cases hn
      unfold expand at hl
      split at hl
      · cases hl
      · split at hl
        · cases hl
        · cases hl
          rw [ht]
          exact ⟨_, _, _, rfl, by have h2 : ¬ be limitB < be (expB (x / 16777216).toNat (x % 16777216) 3) := fun h => hc (.inr h); omega, fun h => hc (.inl h)⟩
theorem tgtRes_length (x : Int) : (tgtRes x).length = 32 := by
  by_cases h : (target x).isSome = true
  · obtain ⟨e, m, k, he, _⟩ := target_some h
    rw [he, expB_length]
  · have : target x = none := by simpa using h
    unfold tgtRes; rw [this]; exact zero32_length
theorem tgtRes_bytes (x : Int) : Bytes (tgtRes x) := by
  by_cases h : (target x).isSome = true
  · obtain ⟨e, m, k, he, _⟩ := target_some h
    rw [he]; exact expB_bytes _ _ _
  · have : target x = none := by simpa using h
    unfold tgtRes; rw [this]; exact zero32_bytes
theorem work_div {T : Int} (h : 0 ≤ T) : (N256 - 1 - T) / (T + 1) + 1 = N256 / (T + 1) := by
  have e : N256 = (N256 - 1 - T) + (T + 1) * 1 := by omega
  conv => rhs; rw [e]
  rw [Int.add_mul_ediv_left _ _ (by omega)]
theorem limit_small : be limitB < 57896044618658097711785492504343953926634992332820282019728792003956564819968 := by decide +kernel
theorem words_not (T : Int) : words (N256 - 1 - T) = [18446744073709551615 - (words T).getD 0 0, 18446744073709551615 - (words T).getD 1 0, 18446744073709551615 - (words T).getD 2 0, 18446744073709551615 - (words T).getD 3 0] := by
  unfold words N256
  simp only [List.getD_cons_zero, List.getD_cons_succ]
  congr 1
  · omega
  congr 1
  · omega
  congr 1
  · omega
  congr 1
  omega
theorem words_one : words 1 = [1, 0, 0, 0] := by decide +kernel
theorem u64_not (t : Int) (h0 : 0 ≤ t) (h1 : t < 18446744073709551616) : bits .xor .u64 (if IntKind.u64.signed = true then -1 else IntKind.u64.max) t = 18446744073709551615 - t := by
  obtain ⟨n, rfl⟩ := Int.eq_ofNat_of_zero_le h0
  have hn : n < 18446744073709551616 := by omega
  have e : (if IntKind.u64.signed = true then (-1 : Int) else IntKind.u64.max) = ((18446744073709551615 : Nat) : Int) := by decide
  rw [e, bits_xor_u64_nat _ _ (by decide) hn]
  have h2 : (18446744073709551615 ^^^ n : Nat) = 18446744073709551615 - n := by
    have h3 : (BitVec.allOnes 64 ^^^ BitVec.ofNat 64 n).toNat = (~~~ (BitVec.ofNat 64 n)).toNat := by rw [BitVec.allOnes_xor]
    rw [BitVec.toNat_xor, BitVec.toNat_not, BitVec.toNat_ofNat, Nat.mod_eq_of_lt (by omega), BitVec.toNat_allOnes] at h3
    exact h3
  rw [h2]
  omega
theorem laid_keeps {a b c : World} {o : Obj} (h : Keeps a b) (hc : Chg (· = b.heap.size) (b.alloc o) c) : Keeps a c := keeps_chg (keeps_alloc h _) hc h.size
set_option maxRecDepth 100000 in
set_option maxHeartbeats 4000000 in
theorem work_any (x : Int) (h0 : 0 ≤ x) (h1 : x < 4294967296) (w : World) :
    Calls Tryd.prog 15 #[.int .u32 x] w fun e w' => e = .returned (.agg ((workRes x).map (Value.int .u8)).toArray) ∧ Keeps w w' := by
  have htg := target_any x h0 h1
  have hl9 := tgtRes_length x
  have hz9 := zero32_length
  by_cases hs : (target x).isSome = true
  · have he : tgtErr x = 0 := by rw [target_err, if_pos hs]
    have hW : workRes x = toB 32 (N256 / (be (tgtRes x) + 1)) := if_pos hs
    rw [he] at htg
    have hwords := words_any (tgtRes x) (tgtRes_bytes x) hl9
    have hT0 : 0 ≤ be (tgtRes x) := (be_range (tgtRes_bytes x)).1
    have hT1 : be (tgtRes x) < 57896044618658097711785492504343953926634992332820282019728792003956564819968 := by
      obtain ⟨_, _, _, _, h2, _⟩ := target_some hs
      have := limit_small
      omega
    rw [hW]
    clear hs he hW
    generalize tgtRes x = R at *
    generalize be R = T at *
    have hnot := words_not T
    have hup := wadd_any T 1
    have hdiv := divide_any (N256 - 1 - T) (T + 1) (by unfold N256; omega) (by omega) (by omega) (by unfold N256; omega)
    have hadd := wadd_any ((N256 - 1 - T) / (T + 1)) 1
    have hnum := number_any ((N256 - 1 - T) / (T + 1) + 1)
    rw [work_div hT0] at hadd hnum
    have hwr := words_range T
    have hwl := words_length T
    have hul := words_length (T + 1)
    have hnl := words_length (N256 - 1 - T)
    have hfl := words_length (N256 / (T + 1))
    have hol := toB_length 32 (N256 / (T + 1))
    rw [words_one] at hup hadd
    generalize toB 32 (N256 / (T + 1)) = OUT at *
    generalize words (N256 / (T + 1)) = FW at *
    generalize words ((N256 - 1 - T) / (T + 1)) = DW at *
    generalize words (N256 - 1 - T) = NW at *
    generalize words (T + 1) = UW at *
    generalize words T = TW at *
    generalize wcarry T 1 4 = C1 at *
    generalize wcarry ((N256 - 1 - T) / (T + 1)) 1 4 = C2 at *
    have HTG := Lib.hid htg; have HWORDS := Lib.hid hwords; have HNOT := Lib.hid hnot; have HUP := Lib.hid hup; have HDIV := Lib.hid hdiv; have HADD := Lib.hid hadd; have HNUM := Lib.hid hnum; have HWR := Lib.hid hwr
    clear htg hwords hnot hup hdiv hadd hnum hwr hT0 hT1
    have hzT := sz_w4 TW hwl
    have hzU := sz_w4 UW hul
    have hzN := sz_w4 NW hnl
    have hzF := sz_w4 FW hfl
    go_enter Tryd.func15, Tryd.ntmps15
    go_upto_region 1 with (fail)
    refine wp_rows1 (fun W hk hr hs => ?_)
    obtain ⟨p, hp⟩ : ∃ p, p = w.heap.size := ⟨_, rfl⟩
    rw [← hp] at hr hs ⊢
    have hkp : w.heap.size ≤ p := by omega
    have HZ := Lib.hid (show Row W p 0 (zero32.map (Value.int .u8)) from hr); have HK := Lib.hid hk
    clear hp hr hk hs
    go_upto_region 4 with (first | (go_at_call 11; refine (HTG.out _).mono ?_; rintro e W5 ⟨rfl, hk5⟩; have HK5 := Lib.hid hk5; clear hk5) | (refine wpList_store_row rfl 23 (.tmp 3) (.tmp 14) rfl _ 0 rfl (List.replicate 32 (Value.int .u8 0)) (R.map (Value.int .u8)) rfl (Row.new _ _ _ rfl) (by simp [hl9]) (sz_n32 R hl9) (int_oneCell _) ?_; intro w8 hr8 hc8; have H8 := Lib.hid hr8; have HC8 := Lib.hid hc8; clear hr8 hc8))
    have hk8 := laid_keeps (HK.out.trans HK5.out) HC8.out
    have hz8 := HZ.out.keeps (laid_keeps HK5.out HC8.out)
    obtain ⟨g3, hg3⟩ : ∃ g, g = W5.heap.size := ⟨_, rfl⟩
    rw [← hg3] at H8 ⊢
    have HK8 := Lib.hid hk8; have HZ8 := Lib.hid hz8
    clear HC8 hg3 HK5 HK HZ hk8 hz8
    go_upto_region 5 with (first | (refine wpList_load_at rfl 23 (.tmp 3) rfl g3 0 rfl (R.map (Value.int .u8)) _ H8.out Tryd.underlying23 rfl (sz_n32 R hl9) ?_) | (go_at_call 23; refine (HWORDS.out _).mono ?_; rintro e W9 ⟨rfl, hk9⟩; have HK9 := Lib.hid hk9; clear hk9) | (refine wpList_store_row rfl 52 (.tmp 5) (.tmp 20) rfl _ 0 rfl [.int .u64 0, .int .u64 0, .int .u64 0, .int .u64 0] (TW.map (Value.int .u64)) rfl (Row.new _ _ _ rfl) (by simp [hwl]) hzT (int_oneCell _) ?_; intro w10 hr10 hc10; have H10 := Lib.hid hr10; have HC10 := Lib.hid hc10; clear hr10 hc10))
    have hk10 := laid_keeps (HK8.out.trans HK9.out) HC10.out
    have hz10 := HZ8.out.keeps (laid_keeps HK9.out HC10.out)
    obtain ⟨g5, hg5⟩ : ∃ g, g = W9.heap.size := ⟨_, rfl⟩
    rw [← hg5] at H10 ⊢
    have HK10 := Lib.hid hk10; have HZ10 := Lib.hid hz10
    clear HC10 hg5 HK9 HK8 HZ8 hk10 hz10 H8
    have c0 := H10.out.int0 0 (by omega)
    have c1 := H10.out.int0 1 (by omega)
    have c2 := H10.out.int0 2 (by omega)
    have c3 := H10.out.int0 3 (by omega)
    obtain ⟨a0, b0⟩ := HWR.out 0 (by omega)
    obtain ⟨a1, b1⟩ := HWR.out 1 (by omega)
    obtain ⟨a2, b2⟩ := HWR.out 2 (by omega)
    obtain ⟨a3, b3⟩ := HWR.out 3 (by omega)
    clear HWR
    generalize TW.getD 0 0 = t0 at *
    generalize TW.getD 1 0 = t1 at *
    generalize TW.getD 2 0 = t2 at *
    generalize TW.getD 3 0 = t3 at *
    go_upto_region 6 with (fail)
    rw [u64_not t0 a0 b0, u64_not t1 a1 b1, u64_not t2 a2 b2, u64_not t3 a3 b3]
    obtain ⟨g6, hg6⟩ : ∃ g, g = w10.heap.size := ⟨_, rfl⟩
    rw [← hg6]
    refine wp_rows1 (fun w11 hk11 hr11 _ => ?_)
    rw [← hg6] at hr11
    have H6 := Lib.hid (show Row w11 g6 0 (NW.map (Value.int .u64)) by rw [HNOT.out]; exact hr11)
    have HK11 := Lib.hid hk11
    have HV5 := Lib.hid (H10.out.keeps hk11)
    have HZ11 := Lib.hid (HZ10.out.keeps hk11)
    have HKK := Lib.hid (HK10.out.trans hk11)
    clear hk11 hr11 hg6 HNOT H10 HZ10 HK10 HK11 c0 c1 c2 c3 a0 a1 a2 a3 b0 b1 b2 b3
    generalize Value.int .u64 (18446744073709551615 - t0) = v0 at *
    generalize Value.int .u64 (18446744073709551615 - t1) = v1 at *
    generalize Value.int .u64 (18446744073709551615 - t2) = v2 at *
    generalize Value.int .u64 (18446744073709551615 - t3) = v3 at *
    go_upto_region 7 with (first | (refine wpList_load_at rfl 52 (.tmp 5) rfl g5 0 rfl (TW.map (Value.int .u64)) _ HV5.out Tryd.underlying52 rfl hzT ?_) | (go_at_call 24; refine (HUP.out _).mono ?_; rintro e W12 ⟨rfl, hk12⟩; have HK12 := Lib.hid hk12; clear hk12) | (refine wpList_store_row rfl 52 (.tmp 7) (.tmp 38) rfl _ 0 rfl [.int .u64 0, .int .u64 0, .int .u64 0, .int .u64 0] (UW.map (Value.int .u64)) rfl (Row.new _ _ _ rfl) (by simp [hul]) hzU (int_oneCell _) ?_; intro w13 hr13 hc13; have H13 := Lib.hid hr13; have HC13 := Lib.hid hc13; clear hr13 hc13))
    have kk := laid_keeps HK12.out HC13.out
    obtain ⟨g7, hg7⟩ : ∃ g, g = W12.heap.size := ⟨_, rfl⟩
    rw [← hg7] at H13 ⊢
    have H6b := Lib.hid (H6.out.keeps kk); have HZ13 := Lib.hid (HZ11.out.keeps kk); have HK13 := Lib.hid (HKK.out.trans kk)
    clear kk HC13 hg7 H6 HV5 HZ11 HKK HK12 HUP
    go_upto_region 8 with (first | (refine wpList_load_at rfl 52 (.tmp 6) rfl g6 0 rfl (NW.map (Value.int .u64)) _ H6b.out Tryd.underlying52 rfl hzN ?_) | (refine wpList_load_at rfl 52 (.tmp 7) rfl g7 0 rfl (UW.map (Value.int .u64)) _ H13.out Tryd.underlying52 rfl hzU ?_) | (go_at_call 30; refine (HDIV.out _).mono ?_; rintro e W14 ⟨rfl, hk14⟩; have HK14 := Lib.hid hk14; clear hk14) | (go_at_call 24; refine (HADD.out _).mono ?_; rintro e W15 ⟨rfl, hk15⟩; have HK15 := Lib.hid hk15; clear hk15) | (refine wpList_store_row rfl 52 (.tmp 9) (.tmp 46) rfl _ 0 rfl [.int .u64 0, .int .u64 0, .int .u64 0, .int .u64 0] (FW.map (Value.int .u64)) rfl (Row.new _ _ _ rfl) (by simp [hfl]) hzF (int_oneCell _) ?_; intro w16 hr16 hc16; have H16 := Lib.hid hr16; have HC16 := Lib.hid hc16; clear hr16 hc16))
    have kk := laid_keeps (HK14.out.trans HK15.out) HC16.out
    obtain ⟨g9, hg9⟩ : ∃ g, g = W15.heap.size := ⟨_, rfl⟩
    rw [← hg9] at H16 ⊢
    have HZ16 := Lib.hid (HZ13.out.keeps kk); have HK16 := Lib.hid (HK13.out.trans kk)
    clear kk HC16 hg9 H6b H13 HZ13 HK13 HK14 HK15 HADD HDIV
    go_wp2_with (first | (refine wpList_load_at rfl 52 (.tmp 9) rfl g9 0 rfl (FW.map (Value.int .u64)) _ H16.out Tryd.underlying52 rfl hzF ?_) | (go_at_call 25; refine (HNUM.out _).mono ?_; rintro e W17 ⟨rfl, hk17⟩; have HK17 := Lib.hid hk17; clear hk17) | (refine wpList_store_row rfl 23 (.tmp 2) (.tmp 49) rfl p 0 rfl _ (OUT.map (Value.int .u8)) rfl (HZ16.out.keeps HK17.out) (by simp [hol, hz9]) (sz_n32 OUT hol) (int_oneCell _) ?_; intro w18 hr18 hc18; have H18 := Lib.hid hr18; have HC18 := Lib.hid hc18; clear hr18 hc18))
    exact bodyPost_ret (v := .agg (OUT.map (Value.int .u8)).toArray) (results_cell_at (p := 2) (ty := 23) rfl _ _ p 0 _ _ rfl H18.out Tryd.underlying23 rfl (sz_n32 OUT hol)) rfl ⟨rfl, keeps_chg (HK16.out.trans HK17.out) HC18.out hkp⟩
  · have he : tgtErr x = 3 := by rw [target_err, if_neg hs]
    have hW : workRes x = zero32 := if_neg hs
    rw [he] at htg
    rw [hW]
    generalize tgtRes x = R at *
    have HTG := Lib.hid htg
    clear htg he hW hs
    go_enter Tryd.func15, Tryd.ntmps15
    go_upto_region 1 with (fail)
    refine wp_rows1 (fun W hk hr hs => ?_)
    obtain ⟨p, hp⟩ : ∃ p, p = w.heap.size := ⟨_, rfl⟩
    rw [← hp] at hr hs ⊢
    have hkp : w.heap.size ≤ p := by omega
    have HZ := Lib.hid (show Row W p 0 (zero32.map (Value.int .u8)) from hr); have HK := Lib.hid hk
    clear hp hr hk hs
    go_upto_region 2 with (first | (go_at_call 11; refine (HTG.out _).mono ?_; rintro e W5 ⟨rfl, hk5⟩; have HK5 := Lib.hid hk5; clear hk5) | (refine wpList_store_row rfl 23 (.tmp 3) (.tmp 14) rfl _ 0 rfl (List.replicate 32 (Value.int .u8 0)) (R.map (Value.int .u8)) rfl (Row.new _ _ _ rfl) (by simp [hl9]) (sz_n32 R hl9) (int_oneCell _) ?_; intro w8 hr8 hc8; have H8 := Lib.hid hr8; have HC8 := Lib.hid hc8; clear hr8 hc8))
    have HK8 := Lib.hid (laid_keeps (HK.out.trans HK5.out) HC8.out)
    have HZ8 := Lib.hid (HZ.out.keeps (laid_keeps HK5.out HC8.out))
    generalize W5.heap.size = g at *
    clear HC8 HK5 HK HZ
    go_wp2_with (refine wpList_store_row rfl 23 (.tmp 2) (.tmp 18) rfl p 0 rfl _ (zero32.map (Value.int .u8)) rfl HZ8.out (by simp) (sz_n32 zero32 hz9) (int_oneCell _) ?_; intro w9 hr9 hc9; have H9 := Lib.hid hr9; have HC9 := Lib.hid hc9; clear hr9 hc9)
    exact bodyPost_ret (v := .agg (zero32.map (Value.int .u8)).toArray) (results_cell_at (p := 2) (ty := 23) rfl _ _ p 0 _ _ rfl H9.out Tryd.underlying23 rfl (sz_n32 zero32 hz9)) rfl ⟨rfl, keeps_chg HK8.out HC9.out hkp⟩
end Go.Proofs.YtdcoiniecmeglaaDoor
