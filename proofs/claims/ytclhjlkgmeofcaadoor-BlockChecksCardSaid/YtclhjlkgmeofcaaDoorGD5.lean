/- Is a block's work done: slices.Reverse at 32 bytes, Proved in both. -/
import Derived.Test.YtclhjlkgmeofcaaDoorGD1
import Derived.Test.YtclhjlkgmeofcaaDoorGD4
import Derived.Test.YtclhjlkgmeofcaaDoorGC0
import Derived.Test.YtclhjlkgmeofcaaDoorGB6
namespace Go.Proofs.YtclhjlkgmeofcaaDoor
set_option linter.unusedVariables false
set_option linter.unusedSimpArgs false
open Go Go.RowKit

/-- k turns from both ends -/
def rvN (l : List Int) (k : Nat) : List Int := (List.range 32).map fun i => if i < k ∨ 31 - i < k then l.getD (31 - i) 0 else l.getD i 0
theorem rvN_length (l : List Int) (k : Nat) : (rvN l k).length = 32 := by simp [rvN]
theorem rvN_get (l : List Int) (k i : Nat) (h : i < 32) : (rvN l k).getD i 0 = if i < k ∨ 31 - i < k then l.getD (31 - i) 0 else l.getD i 0 := by
  simp [rvN, List.getD, h]
theorem rvN_zero (l : List Int) (h : l.length = 32) : rvN l 0 = l := by
  apply List.ext_getElem
  · simp [rvN, h]
  · intro i h1 h2
    have := rvN_get l 0 i (by omega)
    simp [List.getD, h1, h2] at this
    exact this
theorem rvN_full (l : List Int) (h : l.length = 32) : rvN l 16 = l.reverse := by
  apply List.ext_getElem
  · simp [rvN, h]
  · intro i h1 h2
    have h3 : i < 32 := by simpa [rvN] using h1
    have := rvN_get l 16 i h3
    rw [if_pos (by omega)] at this
    rw [List.getElem_reverse]
    simp only [List.getD, List.getElem?_eq_getElem h1, Option.getD_some] at this
    rw [this, List.getElem?_eq_getElem (by omega)]
    simp [h]
theorem rvN_step (l : List Int) (k : Nat) (h : k < 16) : ((rvN l k).set k ((rvN l k).getD (31 - k) 0)).set (31 - k) ((rvN l k).getD k 0) = rvN l (k + 1) := by
  apply List.ext_getElem
  · simp [rvN]
  · intro i h1 h2
    have h3 : i < 32 := by simpa [rvN] using h2
    have e1 := rvN_get l k (31 - k) (by omega)
    have e2 := rvN_get l k k (by omega)
    have e3 := rvN_get l (k + 1) i h3
    have e4 := rvN_get l k i h3
    have h4 : i < (rvN l k).length := by rw [rvN_length]; exact h3
    simp only [List.getD, List.getElem?_eq_getElem h2, Option.getD_some] at e3
    rw [e3]
    rw [if_neg (by omega)] at e1 e2
    simp only [List.getElem_set]
    by_cases a : 31 - k = i
    · rw [if_pos a, e2, if_pos (by omega), show 31 - i = k by omega]; rfl
    · rw [if_neg a]
      by_cases b : k = i
      · rw [if_pos b, e1, if_pos (by omega), ← b]; rfl
      · rw [if_neg b]
        simp only [List.getD, List.getElem?_eq_getElem h4, Option.getD_some] at e4
        rw [e4]
        by_cases c : i < k ∨ 31 - i < k
        · rw [if_pos c, if_pos (by omega)]
        · rw [if_neg c, if_neg (by omega)]
set_option maxHeartbeats 400000 in
set_option maxRecDepth 100000 in
theorem reverse32 (g off cap : Nat) (hc : 32 ≤ cap) (hc2 : cap ≤ maxLen) (l : List Int) (hl : l.length = 32) (w : World) (hr : Row w g off (l.map (Value.int .u8))) :
    Calls Tryd.prog 39 #[.slice (some ⟨g, off, none⟩) 32 cap] w fun e w' => e = .returned (.tuple #[]) ∧ Chg (· = g) w w' ∧ Row w' g off (l.reverse.map (Value.int .u8)) := by
  unfold maxLen at hc2
  have HR := Lib.hid (show Row w g off ((rvN l 0).map (Value.int .u8)) by rw [rvN_zero l hl]; exact hr)
  have HE := Lib.hid (rvN_full l hl)
  have HL := Lib.hid (rvN_length l)
  have HS := Lib.hid (rvN_step l)
  clear hr
  generalize rvN l = rvl at *
  go_enter Tryd.func39, Tryd.ntmps39
  go_wp2
  go_loopw [2, 3] (fun ci cj wr => ∃ k : Nat, k ≤ 16 ∧ ci = .int .i64 k ∧ cj = .int .i64 (31 - (k : Int)) ∧ Chg (· = g) w wr ∧ Row wr g off ((rvl k).map (Value.int .u8))) (fun ci _ _ => (16 - intOf ci).toNat)
  case atStart => exact ⟨0, by omega, rfl, rfl, Chg.refl _ _, HR.out⟩
  case round =>
    obtain ⟨k, hk, rfl, rfl, hch, hrt⟩ := hrel
    by_cases hlt : k < 16
    · have c1 := hrt.int k (by rw [HL.out]; omega)
      have c2 := hrt.int (31 - k) (by rw [HL.out]; omega)
      have f1 := hrt.free k (by rw [List.length_map, HL.out]; omega)
      have f2 := hrt.free (31 - k) (by rw [List.length_map, HL.out]; omega)
      have hset := (hrt.setInt k (by rw [HL.out]; omega) ((rvl k).getD (31 - k) 0)).setInt (31 - k) (by rw [List.length_set, HL.out]; omega) ((rvl k).getD k 0)
      rw [HS.out k hlt] at hset
      have HSET := Lib.hid hset; have HCH := Lib.hid hch
      clear hset hch hrt
      generalize (rvl k).getD k 0 = y1 at *
      generalize (rvl k).getD (31 - k) 0 = y2 at *
      have hn7 : ((31 - k : Nat) : Int) = 31 - (k : Int) := by omega
      go_wp2
      go_region
      go_wp2
      go_roundw
      case rel => exact ⟨k + 1, by omega, by go_num, by go_num, ((HCH.out.setCell (.inr rfl) _).setCell (.inr rfl) _).drew, HSET.out.drew⟩
      case measure => simp [intOf]; omega
    · obtain rfl : k = 16 := by omega
      rw [HE.out] at hrt
      have HRT := Lib.hid hrt; have HCH := Lib.hid hch
      clear hrt hch
      go_wp2
      go_end0
      exact ⟨rfl, HCH.out, HRT.out⟩
theorem pv_target_some {x : Int} (h : (target x).isSome = true) : ∃ e m k, tgtRes x = expB e m k ∧ be (tgtRes x) ≤ be limitB ∧ tgtRes x ≠ nm_zero32 := by
  obtain ⟨n, hn⟩ := Option.isSome_iff_exists.1 h
  have ht : tgtRes x = n := by unfold tgtRes; rw [hn]; rfl
  unfold target at hn
  split at hn
  · cases hn
  · rename_i l hl
    split at hn
    · cases hn
    · rename_i hc
      cases hn
      unfold expand at hl
      split at hl
      · cases hl
      · split at hl
        · cases hl
        · cases hl
          rw [ht]
          exact ⟨_, _, _, rfl, by have h2 : ¬ be limitB < be (expB (x / 16777216).toNat (x % 16777216) 3) := fun h => hc (.inr h); omega, fun h => hc (.inl h)⟩
theorem pv_tgtRes_length (x : Int) : (tgtRes x).length = 32 := by
  by_cases h : (target x).isSome = true
  · obtain ⟨e, m, k, he, _⟩ := pv_target_some h
    rw [he, expB_length]
  · have : target x = none := by simpa using h
    unfold tgtRes; rw [this]; exact zero32_length
theorem pv_tgtRes_bytes (x : Int) : Bytes (tgtRes x) := by
  by_cases h : (target x).isSome = true
  · obtain ⟨e, m, k, he, _⟩ := pv_target_some h
    rw [he]; exact expB_bytes _ _ _
  · have : target x = none := by simpa using h
    unfold tgtRes; rw [this]; exact nm_zero32_bytes
/-- is the work done? -/
def provedD (b : Int) (id : List Int) : Bool := decide (tgtErr b = 0) && decide (be id.reverse ≤ be (tgtRes b))
set_option maxRecDepth 100000 in
set_option maxHeartbeats 4000000 in
theorem proved_any (ver : Int) (prev merkle : List Int) (t b n : Int) (hok : HeadOk ver prev merkle t b n) (w : World) :
    Calls Tryd.prog 13 #[.agg (headCells ver prev merkle t b n).toArray] w fun e w' => e = .returned (.bool (provedD b (hidD ver prev merkle t b n))) ∧ Keeps w w' := by
  have hc2 := (headCells_at ver prev merkle t b n hok.prevLen hok.merkleLen).2.1
  have HID := Lib.hid (fun W => bid_any ver prev merkle t b n hok.prevLen hok.merkleLen hok.prev hok.merkle hok.time hok.bits hok.nonce W)
  have HTG := Lib.hid (fun W => target_any b hok.bits.1 hok.bits.2 W)
  have ZH : Hid ((Tryd.prog.info? 27).map (·.size) = some (headCells ver prev merkle t b n).length) := Lib.hid (sz_head ver prev merkle t b n hok.prevLen hok.merkleLen)
  have hidl : (hidD ver prev merkle t b n).length = 32 := sha_length _
  have hidb : Bytes (hidD ver prev merkle t b n) := sha_bytes _
  have htl := pv_tgtRes_length b
  have htb := pv_tgtRes_bytes b
  have hcmp := bcompare_any (hidD ver prev merkle t b n).reverse (tgtRes b) (fun x hx => hidb x (List.mem_reverse.1 hx)) htb (by simp [hidl]) htl
  have hpd : provedD b (hidD ver prev merkle t b n) = (decide (tgtErr b = 0) && decide (be (hidD ver prev merkle t b n).reverse ≤ be (tgtRes b))) := rfl
  have hc0 : decide (cmpZ (be (hidD ver prev merkle t b n).reverse) (be (tgtRes b)) ≤ 0) = decide (be (hidD ver prev merkle t b n).reverse ≤ be (tgtRes b)) := by
    unfold cmpZ
    split
    · rw [decide_eq_true (by omega), decide_eq_true (by omega)]
    · split
      · rw [decide_eq_false (by omega), decide_eq_false (by omega)]
      · rw [decide_eq_true (by omega), decide_eq_true (by omega)]
  rw [← hc0] at hpd
  rw [hpd]
  have hte : tgtErr b = 0 ∨ tgtErr b = 3 := by unfold tgtErr; split <;> simp
  have ZI : Hid ((Tryd.prog.info? 24).map (·.size) = some ((hidD ver prev merkle t b n).map (Value.int .u8)).length) := by rw [List.length_map, hidl]; exact Lib.hid sz_hash
  have HCMP := Lib.hid hcmp
  have HIL := Lib.hid hidl
  clear hc0 hpd hok hcmp hidl
  generalize headCells ver prev merkle t b n = HC at *
  generalize hidD ver prev merkle t b n = ID at *
  generalize tgtRes b = TR at *
  generalize tgtErr b = TE at *
  generalize cmpZ (be ID.reverse) (be TR) = CZ at *
  have HC2 := Lib.hid hc2
  have ZT := Lib.hid (sz_n32 TR htl)
  have HTL := Lib.hid htl
  clear hc2 hidb htl htb
  go_enter Tryd.func13, Tryd.ntmps13
  go_upto_region 1 with (fail)
  refine wp_rows1 (fun W hk hr hs => ?_)
  obtain ⟨p, hp'⟩ : ∃ p, p = w.heap.size := ⟨_, rfl⟩
  rw [← hp'] at hr hs ⊢
  have HR := Lib.hid (show Row W p 0 HC from hr); have HK := Lib.hid hk; have HP := Lib.hid hp'
  have r0 := (HR.out 66 _ HC2.out).1
  rw [Nat.zero_add] at r0
  clear hr hk hs hp'
  go_upto_region 2 with (first | (go_at_call 23; refine (HTG.out _).mono ?_; rintro e W1 ⟨rfl, hk1⟩; have HK1 := Lib.hid hk1; clear hk1) | (refine wpList_store_row rfl 57 (.tmp 3) (.tmp 10) rfl _ 0 rfl _ (TR.map (Value.int .u8)) rfl (Row.new zeros32 _ _ rfl) (by rw [List.length_map, HTL.out]; rfl) ZT.out (int_oneCell _) ?_; intro W2 hr2 hc2; have HR2 := Lib.hid hr2; have HC3 := Lib.hid hc2; clear hr2 hc2))
  have hk2 : Keeps W W2 := keeps_chg (keeps_alloc HK1.out _) HC3.out HK1.out.size
  obtain ⟨p2, hp2⟩ : ∃ q, q = W1.heap.size := ⟨_, rfl⟩
  rw [← hp2] at HR2 ⊢
  have HK2 := Lib.hid hk2; have HP2 := Lib.hid hp2
  have hp2w : p2 < W2.heap.size := HR2.out.lt (by intro e; have := congrArg List.length e; rw [List.length_map, HTL.out] at this; simp at this)
  have HPW := Lib.hid hp2w
  clear hk2 hp2 hp2w HC3
  go_upto_region 3 with (first | (refine wpList_load_at rfl 27 (.tmp 1) rfl p 0 rfl _ _ (HR.out.keeps HK2.out) Tryd.underlying27 rfl ZH.out ?_) | (go_at_call 38; refine (HID.out _).mono ?_; rintro e W3 ⟨rfl, hk3⟩; have HK3 := Lib.hid hk3; clear hk3) | (refine wpList_store_row rfl 24 (.tmp 5) (.tmp 13) rfl _ 0 rfl _ (ID.map (Value.int .u8)) rfl (Row.new zeros32 _ _ rfl) (by rw [List.length_map, HIL.out]; rfl) ZI.out (int_oneCell _) ?_; intro W4 hr4 hc4; have HR4 := Lib.hid hr4; have HC4 := Lib.hid hc4; clear hr4 hc4))
  have hk4 : Keeps W2 W4 := keeps_chg (keeps_alloc HK3.out _) HC4.out HK3.out.size
  have hp4 : W2.heap.size ≤ W3.heap.size := HK3.out.size
  have hw2 : w.heap.size ≤ W2.heap.size := (HK.out.trans HK2.out).size
  have HKA := Lib.hid ((HK.out.trans HK2.out).trans hk4)
  have HRT := Lib.hid (HR2.out.keeps hk4)
  obtain ⟨p4, hq⟩ : ∃ q, q = W3.heap.size := ⟨_, rfl⟩
  rw [← hq] at HR4 hp4 ⊢
  clear hq hk4 HC4 HR HK HK1 HK2 HK3
  go_upto_region 4 with (go_at_call 39; refine (reverse32 p4 0 32 (Nat.le_refl _) (by unfold maxLen; omega) ID HIL.out _ HR4.out).mono ?_; rintro e W5 ⟨rfl, hc5, hr5⟩; have HC5 := Lib.hid hc5; have HR5 := Lib.hid hr5; clear hc5 hr5)
  have hpp := HPW.out
  have HRU := Lib.hid (HRT.out.chg HC5.out (by omega))
  have hws : w.heap.size ≤ p4 := by omega
  have HKB := Lib.hid (keeps_chg HKA.out HC5.out hws)
  have ZR : Hid ((Tryd.prog.info? 24).map (·.size) = some (ID.reverse.map (Value.int .u8)).length) := by rw [List.length_map, List.length_reverse, HIL.out]; exact Lib.hid sz_hash
  clear hws HKA hpp
  generalize ID.reverse = RI at *
  rcases hte with rfl | rfl
  · go_wp2_with (first | (refine wpList_load_on (by kernel_rfl) 24 (.tmp 5) rfl p4 0 rfl _ _ HR5.out Tryd.underlying24 rfl ZR.out ?_) | (refine wpList_load_on (by kernel_rfl) 57 (.tmp 3) rfl p2 0 rfl _ _ HRU.out Tryd.underlying57 rfl ZT.out ?_) | (go_at_call 40; refine (HCMP.out _).mono ?_; rintro e W6 ⟨rfl, hk6⟩; have HK6 := Lib.hid hk6; clear hk6))
    go_ret
    exact ⟨by simp, HKB.out.trans HK6.out⟩
  · go_wp2
    go_ret
    exact ⟨by simp, HKB.out⟩
/-- the first k bytes turned, noughts behind -/
def rvP (l : List Int) (k : Nat) : List Int := (List.range 32).map fun i => if i < k then l.getD (31 - i) 0 else 0
theorem rvP_length (l : List Int) (k : Nat) : (rvP l k).length = 32 := by simp [rvP]
theorem rvP_zero (l : List Int) : rvP l 0 = List.replicate 32 0 := rfl
theorem rvP_step (l : List Int) (k : Nat) (h : k < 32) : (rvP l k).set k (l.getD (31 - k) 0) = rvP l (k + 1) := by
  apply List.ext_getElem
  · simp [rvP]
  · intro i h1 h2
    simp only [rvP, List.getElem_set, List.getElem_map, List.getElem_range]
    by_cases a : k = i
    · subst a; simp
    · rw [if_neg a]
      by_cases b : i < k
      · rw [if_pos b, if_pos (by omega)]
      · rw [if_neg b, if_neg (by omega)]
theorem rvP_full (l : List Int) (h : l.length = 32) : rvP l 32 = l.reverse := by
  apply List.ext_getElem
  · simp [rvP, h]
  · intro i h1 h2
    have h3 : i < 32 := by simpa [rvP] using h1
    simp only [rvP, List.getElem_map, List.getElem_range, if_pos h3, List.getElem_reverse, h]
    simp [List.getD, h, show 31 - i < 32 by omega]
set_option maxRecDepth 100000 in
set_option maxHeartbeats 4000000 in
theorem rproved_any (ver : Int) (prev merkle : List Int) (t b n : Int) (hok : HeadOk ver prev merkle t b n) (w : World) :
    Calls Tryd.prog 12 #[.agg (headCells ver prev merkle t b n).toArray] w fun e w' => e = .returned (.bool (provedD b (hidD ver prev merkle t b n))) ∧ Keeps w w' := by
  have hc2 := (headCells_at ver prev merkle t b n hok.prevLen hok.merkleLen).2.1
  have HID := Lib.hid (fun W => rbid_any ver prev merkle t b n hok.prevLen hok.merkleLen hok.prev hok.merkle hok.time hok.bits hok.nonce W)
  have HTG := Lib.hid (fun W => rtarget_any b hok.bits.1 hok.bits.2 W)
  have ZH : Hid ((Tryd.prog.info? 27).map (·.size) = some (headCells ver prev merkle t b n).length) := Lib.hid (sz_head ver prev merkle t b n hok.prevLen hok.merkleLen)
  have hidl : (hidD ver prev merkle t b n).length = 32 := sha_length _
  have hidb : Bytes (hidD ver prev merkle t b n) := sha_bytes _
  have htl := pv_tgtRes_length b
  have htb := pv_tgtRes_bytes b
  have hcmp := less_any (tgtRes b) (hidD ver prev merkle t b n).reverse htb (fun x hx => hidb x (List.mem_reverse.1 hx)) htl (by simp [hidl])
  have hpd : provedD b (hidD ver prev merkle t b n) = ((target b).isSome && !decide (be (tgtRes b) < be (hidD ver prev merkle t b n).reverse)) := by
    unfold provedD tgtErr
    congr 1
    · cases (target b).isSome <;> simp
    · by_cases h : be (tgtRes b) < be (hidD ver prev merkle t b n).reverse
      · rw [decide_eq_true h, decide_eq_false (by omega)]; rfl
      · rw [decide_eq_false h, decide_eq_true (by omega)]; rfl
  rw [hpd]
  have ZI : Hid ((Tryd.prog.info? 23).map (·.size) = some ((hidD ver prev merkle t b n).map (Value.int .u8)).length) := by rw [List.length_map, hidl]; exact Lib.hid sz_b32
  have HCMP := Lib.hid hcmp
  have HIL := Lib.hid hidl
  have HPS := Lib.hid (rvP_step (hidD ver prev merkle t b n)); have HPL := Lib.hid (rvP_length (hidD ver prev merkle t b n)); have HPF := Lib.hid (rvP_full _ hidl)
  have HPZ := Lib.hid (rvP_zero (hidD ver prev merkle t b n))
  clear hpd hok hcmp hidl
  generalize headCells ver prev merkle t b n = HC at *
  generalize hidD ver prev merkle t b n = ID at *
  generalize decide (be (tgtRes b) < be ID.reverse) = CZ at *
  generalize tgtRes b = TR at *
  generalize (target b).isSome = TE at *
  generalize rvP ID = RV at *
  have HC2 := Lib.hid hc2
  have ZT : Hid ((Tryd.prog.info? 23).map (·.size) = some (TR.map (Value.int .u8)).length) := by rw [List.length_map, htl]; exact Lib.hid sz_b32
  have HTL := Lib.hid htl
  clear hc2 hidb htl htb
  go_enter Tryd.func12, Tryd.ntmps12
  go_upto_region 1 with (fail)
  refine wp_rows1 (fun W hk hr hs => ?_)
  obtain ⟨p, hp'⟩ : ∃ p, p = w.heap.size := ⟨_, rfl⟩
  rw [← hp'] at hr hs ⊢
  have HR := Lib.hid (show Row W p 0 HC from hr); have HK := Lib.hid hk; have HP := Lib.hid hp'
  have r0 := (HR.out 66 _ HC2.out).1
  rw [Nat.zero_add] at r0
  clear hr hk hs hp'
  go_upto_region 2 with (first | (go_at_call 35; refine (HTG.out _).mono ?_; rintro e W1 ⟨rfl, hk1⟩; have HK1 := Lib.hid hk1; clear hk1) | (refine wpList_store_row rfl 23 (.tmp 3) (.tmp 12) rfl _ 0 rfl _ (TR.map (Value.int .u8)) rfl (Row.new zeros32 _ _ rfl) (by rw [List.length_map, HTL.out]; rfl) ZT.out (int_oneCell _) ?_; intro W2 hr2 hc2; have HR2 := Lib.hid hr2; have HC3 := Lib.hid hc2; clear hr2 hc2))
  have hk2 : Keeps W W2 := keeps_chg (keeps_alloc HK1.out _) HC3.out HK1.out.size
  obtain ⟨p2, hp2⟩ : ∃ q, q = W1.heap.size := ⟨_, rfl⟩
  rw [← hp2] at HR2 ⊢
  have HK2 := Lib.hid hk2; have HP2 := Lib.hid hp2
  have hp2w : p2 < W2.heap.size := HR2.out.lt (by intro e; have := congrArg List.length e; rw [List.length_map, HTL.out] at this; simp at this)
  have HPW := Lib.hid hp2w
  clear hk2 hp2 hp2w HC3
  go_upto_region 3 with (first | (refine wpList_load_at rfl 27 (.tmp 1) rfl p 0 rfl _ _ (HR.out.keeps HK2.out) Tryd.underlying27 rfl ZH.out ?_) | (go_at_call 36; refine (HID.out _).mono ?_; rintro e W3 ⟨rfl, hk3⟩; have HK3 := Lib.hid hk3; clear hk3) | (refine wpList_store_row rfl 23 (.tmp 5) (.tmp 15) rfl _ 0 rfl _ (ID.map (Value.int .u8)) rfl (Row.new zeros32 _ _ rfl) (by rw [List.length_map, HIL.out]; rfl) ZI.out (int_oneCell _) ?_; intro W4 hr4 hc4; have HR4 := Lib.hid hr4; have HC4 := Lib.hid hc4; clear hr4 hc4))
  have hk4 : Keeps W2 W4 := keeps_chg (keeps_alloc HK3.out _) HC4.out HK3.out.size
  have hp4 : W2.heap.size ≤ W3.heap.size := HK3.out.size
  have hw2 : w.heap.size ≤ W2.heap.size := (HK.out.trans HK2.out).size
  have HKA := Lib.hid ((HK.out.trans HK2.out).trans hk4)
  have HRT := Lib.hid (HR2.out.keeps hk4)
  obtain ⟨p4, hq⟩ : ∃ q, q = W3.heap.size := ⟨_, rfl⟩
  rw [← hq] at HR4 hp4 ⊢
  clear hq hk4 HC4 HR HK HK1 HK2 HK3
  go_upto_region 4 with (fail)
  obtain ⟨p6, hp6⟩ : ∃ q, q = W4.heap.size := ⟨_, rfl⟩
  have h4l : p4 < W4.heap.size := HR4.out.lt (by intro e; have := congrArg List.length e; rw [List.length_map, HIL.out] at this; simp at this)
  have hrn : Row (W4.alloc (.cells (List.replicate 32 (Value.int .u8 0)).toArray 23)) p6 0 ((RV 0).map (Value.int .u8)) := by rw [hp6, HPZ.out, List.map_replicate]; exact Row.new _ _ _ rfl
  have hra := HRT.out.alloc (.cells (List.replicate 32 (Value.int .u8 0)).toArray 23)
  have hrb := HR4.out.alloc (.cells (List.replicate 32 (Value.int .u8 0)).toArray 23)
  have hkz := keeps_alloc HKA.out (.cells (List.replicate 32 (Value.int .u8 0)).toArray 23)
  have hpq : p2 < p6 ∧ p4 < p6 ∧ w.heap.size ≤ p6 := by have := HRT.out.lt (by intro e; have := congrArg List.length e; rw [List.length_map, HTL.out] at this; simp at this); have := HKA.out.size; omega
  rw [← hp6]
  refine wp_gen (fun W => Keeps w W ∧ Row W p2 0 (TR.map (Value.int .u8)) ∧ Row W p4 0 (ID.map (Value.int .u8)) ∧ Row W p6 0 ((RV 0).map (Value.int .u8))) ⟨hkz, hra, hrb, hrn⟩ ?_
  clear hkz hra hrb hrn hp6 h4l HKA HRT HR4
  intro W6 ⟨hk, h1, h2, h3⟩
  have HKA := Lib.hid hk; have H1 := Lib.hid h1; have H2 := Lib.hid h2; have H3 := Lib.hid h3
  clear hk h1 h2 h3
  go_wp2
  go_loopw [7] (fun c wr => ∃ i : Nat, i ≤ 32 ∧ c = .int .i64 i ∧ Hid (Chg (· = p6) W6 wr) ∧ Hid (Row wr p6 0 ((RV i).map (Value.int .u8)))) (fun c _ => (32 - intOf c).toNat)
  case atStart => exact ⟨0, by omega, rfl, Lib.hid (Chg.refl _ _), H3⟩
  case round =>
    obtain ⟨i, hi, rfl, HCH, HRV⟩ := hrel
    have h2w := H2.out.chg HCH.out (by omega)
    by_cases hlt : i < 32
    · have c1 := h2w.int0 (31 - i) (by rw [HIL.out]; omega)
      have c2 := HRV.out.int0 i (by rw [HPL.out]; exact hlt)
      have f2 := HRV.out.free0 i (by rw [List.length_map, HPL.out]; exact hlt)
      have hset := HRV.out.setInt0 i (by rw [HPL.out]; exact hlt) (ID.getD (31 - i) 0)
      rw [HPS.out i hlt] at hset
      have hn7 : ((31 - i : Nat) : Int) = 31 - (i : Int) := by omega
      have HSET := Lib.hid hset
      clear hset h2w
      generalize ID.getD (31 - i) 0 = y1 at *
      generalize (RV i).getD i 0 = y2 at *
      go_wp2
      go_roundw
      case rel => exact ⟨i + 1, by omega, by go_num, Lib.hid (HCH.out.setCell (.inr rfl) _), HSET⟩
      case measure => simp [intOf]; omega
    · obtain rfl : i = 32 := by omega
      rw [HPF.out] at HRV
      generalize ID.reverse = RI at *
      have ZR : Hid ((Tryd.prog.info? 23).map (·.size) = some (RI.map (Value.int .u8)).length) := by
        have := HPL.out 32
        rw [HPF.out] at this
        rw [List.length_map, this]; exact Lib.hid sz_b32
      have HT := Lib.hid (H1.out.chg HCH.out (by omega))
      have HKB := Lib.hid (keeps_chg HKA.out HCH.out (by omega))
      clear h2w
      cases TE
      · go_wp2
        go_ret
        exact ⟨by simp, HKB.out⟩
      · go_wp2_with (first | (refine wpList_load_on (by kernel_rfl) 23 (.tmp 3) rfl p2 0 rfl _ _ HT.out Tryd.underlying23 rfl ZT.out ?_) | (refine wpList_load_on (by kernel_rfl) 23 (.tmp 6) rfl p6 0 rfl _ _ HRV.out Tryd.underlying23 rfl ZR.out ?_) | (go_at_call 37; refine (HCMP.out _).mono ?_; rintro e W9 ⟨rfl, hk9⟩; have HK9 := Lib.hid hk9; clear hk9))
        go_ret
        exact ⟨by simp, HKB.out.trans HK9.out⟩
end Go.Proofs.YtclhjlkgmeofcaaDoor
