/- curve's group: unpack, as far as lift; and unpack_any. No condition. | The reference's Lift and G on numbers; Unpack. No condition. | Both Public, and IsPublic. No condition. | A public key's bytes are its point; law05's awake. No condition. | The references' Spare and Kept, at bytes: a copy of one's own with nine bytes behind it, and whether it is still as it was. | From what a row says of an argument to what the walks ask: a slice of bytes, a slice of ints. | From what a row says of an argument to what the walks ask: an array of bytes; a slice of bytes cut short. No condition. -/
import Derived.Test.YtlofddoojkeakaaDoorGC5
import Derived.Test.YtlofddoojkeakaaDoorGA3
import Derived.Test.YtlofddoojkeakaaDoorGA2
import Derived.Test.YtlofddoojkeakaaDoorRows
import Derived.ProofKit
import Derived.OpenShut
import Derived.WideKeyArr2
import Derived.ChangeMaps5
namespace Go.Proofs.YtlofddoojkeakaaDoor
set_option linter.unusedVariables false
set_option linter.unusedSimpArgs false
open Go Go.RowKit Cv

set_option maxRecDepth 100000 in
set_option maxHeartbeats 8000000 in
theorem unpx_walk (gg g off cap : Nat) (l XL : List Int) (hl : l.length = 33) (hb : Bytes l) (hok : l.getD 0 0 - l.getD 0 0 % 2 = 2) (lXL : XL.length = 4) (w : World) (hg : Row w g off (l.map (Value.int .u8))) (hcap : 33 ≤ cap) (hcap2 : cap < 9223372036854775808)
    (hN : ∀ v W, Rd W 1 v 32 ((l.drop 1).map (Value.int .u8)) → Calls Tryd.prog 35 #[v] W fun e w' => e = .returned (.agg (XL.map (Value.int .u64)).toArray) ∧ Keeps W w')
    (hB : ∀ W, Keeps w W → Calls Tryd.prog 36 #[.pointer (some ⟨gg, 0, none⟩), .agg (XL.map (Value.int .u64)).toArray] W fun e w' => e = .returned (.bool false) ∧ Keeps W w') :
    Calls Tryd.prog 32 #[.pointer (some ⟨gg, 0, none⟩), .slice (some ⟨g, off, none⟩) 33 cap] w fun e w' => e = .returned (.tuple #[.agg (zero12.map (Value.int .u64)).toArray, .bool false]) ∧ Keeps w w' := by
  have HNM := Lib.hid hN; have HBL := Lib.hid hB; clear hN hB
  have hb0 := hb.getD 0
  have HG := Lib.hid hg
  have hl0 : 0 < l.length := by omega
  have hgl : g < w.heap.size := hg.lt (by intro e; have := congrArg List.length e; rw [List.length_map, hl] at this; cases this)
  have HL := Lib.hid hl
  clear hg hb hl
  go_enter Tryd.func32, Tryd.ntmps32
  go_upto_region 1 with (fail)
  refine cu_rows1 (fun W hk hra hs => ?_)
  obtain ⟨p, hp⟩ : ∃ p, p = w.heap.size := ⟨_, rfl⟩
  rw [← hp] at hra hs hgl ⊢
  have hkp : w.heap.size ≤ p := by omega
  obtain ⟨Zr, hZr, hrz⟩ : ∃ Zr : List Value, Zr.length = 12 ∧ Row W p 0 Zr := ⟨_, rfl, hra⟩
  have HKW := Lib.hid hk; have HRres := Lib.hid hrz
  have HC0 := Lib.hid (fun W' (hk' : Keeps w W') => (HG.out.keeps hk').int 0 hl0)
  have c0 := HC0.out W hk
  rw [Nat.add_zero] at c0
  have HR1 := Lib.hid (show Row W g (off + 1) ((l.drop 1).map (Value.int .u8)) by have := (HG.out.keeps hk).drop 1; rwa [← List.map_drop] at this)
  have HL1 := Lib.hid (show (l.drop 1).length = 32 by rw [List.length_drop, HL.out])
  have hgW : g < W.heap.size := by omega
  clear hp hra hrz hk hs hl0
  generalize hB0 : l.getD 0 0 = b0 at *
  have HB0 := Lib.hid hB0
  generalize l.drop 1 = LD at *
  have hand : bits .andNot .u8 b0 1 = b0 - b0 % 2 := andnot_one hb0.1 (by have := hb0.2; omega)
  have z1 : (b0 - b0 % 2 != 2) = false := by rw [bne_eq_false_iff_eq]; exact hok
  have HBR := Lib.hid hb0
  clear hok hb0 hB0
  go_upto_region 4 with (first | (go_at_call 35; refine (HNM.out _ _ (Rd.of_row HR1.out (by simp [HL1.out]) hgW (by omega) (by unfold maxLen; omega))).mono ?_; rintro e V1 ⟨rfl, hk1⟩; have HV1 := Lib.hid hk1; clear hk1) | (refine ws (g := V1.heap.size) (olds := zeros4) (Row.new _ _ _ rfl) lXL rfl (h := ?_); intro W2 hr2 hc2; have HN := Lib.hid hr2; have HK2 := Lib.hid (nm_keeps_chg (nm_keeps_alloc HV1.out _) hc2 HV1.out.size); clear hr2 hc2))
  have hq : W.heap.size ≤ V1.heap.size := HV1.out.size
  have hpq : p < V1.heap.size := Nat.lt_of_lt_of_le (HRres.out.lt (by intro e; rw [e] at hZr; cases hZr)) hq
  generalize V1.heap.size = q at *
  have HRres := Lib.hid (HRres.out.keeps HK2.out)
  have HKW := Lib.hid (HKW.out.trans HK2.out)
  have HRX := HN
  refine wp_region_keep 5 [] [0, 1, 2, 3, 4] (fun _ => zeros4) (by kernel_rfl) (by kernel_rfl) (by intro i hi; cases hi) ?_
  iterate 3 refine kp (h := ?_)
  refine kl (fun wS hS => (HRX.out.keeps hS)) lXL (h := ?_)
  refine kc (hc := by exact fun wS hS => HBL.out wS (HKW.out.trans hS)) (h := ?_)
  refine keep_nil ?_
  intro GG V2 hk1 hG
  clear hG
  simp only [putsA, dstAt, ptrV, kD, kG, kP, Option.bind_some]
  have HRres := Lib.hid (HRres.out.keeps hk1)
  have HKW := Lib.hid (HKW.out.trans hk1)
  have HRX := Lib.hid (HRX.out.keeps hk1)
  clear hk1
  go_wp2_with (refine wpList_store_row rfl 76 (.tmp 4) (.tmp 27) rfl _ 0 rfl Zr (zero12.map (Value.int .u64)) rfl HRres.out (by rw [hZr]; rfl) sz_cpt (int_oneCell _) ?_; intro W2 hr2 hc2; have HN := Lib.hid hr2; have HC := Lib.hid hc2; clear hr2 hc2)
  exact bodyPost_ret (results_cell_tmpB (p := 4) (t := 5) (ty := 76) rfl _ _ p 0 _ _ _ rfl rfl HN.out Tryd.underlying76 rfl sz_cpt) rfl ⟨rfl, nm_keeps_chg HKW.out HC.out (by omega)⟩
set_option maxRecDepth 100000 in
set_option maxHeartbeats 8000000 in
theorem unpok_walk (gg g off cap : Nat) (l XL : List Int) (hl : l.length = 33) (hb : Bytes l) (hok : l.getD 0 0 - l.getD 0 0 % 2 = 2) (lXL : XL.length = 4) (w : World) (hg : Row w g off (l.map (Value.int .u8))) (hcap : 33 ≤ cap) (hcap2 : cap < 9223372036854775808)
    (hN : ∀ v W, Rd W 1 v 32 ((l.drop 1).map (Value.int .u8)) → Calls Tryd.prog 35 #[v] W fun e w' => e = .returned (.agg (XL.map (Value.int .u64)).toArray) ∧ Keeps W w')
    (hB : ∀ W, Keeps w W → Calls Tryd.prog 36 #[.pointer (some ⟨gg, 0, none⟩), .agg (XL.map (Value.int .u64)).toArray] W fun e w' => e = .returned (.bool true) ∧ Keeps W w') (LC : List Int) (d : Bool) (lLC : LC.length = 12)
    (hLf : ∀ b, b = l.getD 0 0 → ∀ W, Keeps w W → Calls Tryd.prog 57 #[.pointer (some ⟨gg, 0, none⟩), .agg (XL.map (Value.int .u64)).toArray, .int .u64 (b % 2)] W fun e w' => e = .returned (.tuple #[.agg (LC.map (Value.int .u64)).toArray, .bool d]) ∧ Keeps W w') :
    Calls Tryd.prog 32 #[.pointer (some ⟨gg, 0, none⟩), .slice (some ⟨g, off, none⟩) 33 cap] w fun e w' => e = .returned (.tuple #[.agg (LC.map (Value.int .u64)).toArray, .bool d]) ∧ Keeps w w' := by
  have HNM := Lib.hid hN; have HBL := Lib.hid hB; clear hN hB
  have HLF := Lib.hid hLf; clear hLf
  have hb0 := hb.getD 0
  have HG := Lib.hid hg
  have hl0 : 0 < l.length := by omega
  have hgl : g < w.heap.size := hg.lt (by intro e; have := congrArg List.length e; rw [List.length_map, hl] at this; cases this)
  have HL := Lib.hid hl
  clear hg hb hl
  go_enter Tryd.func32, Tryd.ntmps32
  go_upto_region 1 with (fail)
  refine cu_rows1 (fun W hk hra hs => ?_)
  obtain ⟨p, hp⟩ : ∃ p, p = w.heap.size := ⟨_, rfl⟩
  rw [← hp] at hra hs hgl ⊢
  have hkp : w.heap.size ≤ p := by omega
  obtain ⟨Zr, hZr, hrz⟩ : ∃ Zr : List Value, Zr.length = 12 ∧ Row W p 0 Zr := ⟨_, rfl, hra⟩
  have HKW := Lib.hid hk; have HRres := Lib.hid hrz
  have HC0 := Lib.hid (fun W' (hk' : Keeps w W') => (HG.out.keeps hk').int 0 hl0)
  have c0 := HC0.out W hk
  rw [Nat.add_zero] at c0
  have HR1 := Lib.hid (show Row W g (off + 1) ((l.drop 1).map (Value.int .u8)) by have := (HG.out.keeps hk).drop 1; rwa [← List.map_drop] at this)
  have HL1 := Lib.hid (show (l.drop 1).length = 32 by rw [List.length_drop, HL.out])
  have hgW : g < W.heap.size := by omega
  clear hp hra hrz hk hs hl0
  generalize hB0 : l.getD 0 0 = b0 at *
  have HB0 := Lib.hid hB0
  generalize l.drop 1 = LD at *
  have hand : bits .andNot .u8 b0 1 = b0 - b0 % 2 := andnot_one hb0.1 (by have := hb0.2; omega)
  have z1 : (b0 - b0 % 2 != 2) = false := by rw [bne_eq_false_iff_eq]; exact hok
  have HBR := Lib.hid hb0
  have hand2 : bits .and .u8 b0 1 = b0 % 2 := and_one8 hb0.1 (by have := hb0.2; omega)
  have HLF := Lib.hid (fun W' hk' => HLF.out b0 (by first | rfl | exact hB0.symm) W' hk')
  clear hok hb0 hB0
  go_upto_region 4 with (first | (go_at_call 35; refine (HNM.out _ _ (Rd.of_row HR1.out (by simp [HL1.out]) hgW (by omega) (by unfold maxLen; omega))).mono ?_; rintro e V1 ⟨rfl, hk1⟩; have HV1 := Lib.hid hk1; clear hk1) | (refine ws (g := V1.heap.size) (olds := zeros4) (Row.new _ _ _ rfl) lXL rfl (h := ?_); intro W2 hr2 hc2; have HN := Lib.hid hr2; have HK2 := Lib.hid (nm_keeps_chg (nm_keeps_alloc HV1.out _) hc2 HV1.out.size); clear hr2 hc2))
  have hq : W.heap.size ≤ V1.heap.size := HV1.out.size
  have hpq : p < V1.heap.size := Nat.lt_of_lt_of_le (HRres.out.lt (by intro e; rw [e] at hZr; cases hZr)) hq
  generalize V1.heap.size = q at *
  have HRres := Lib.hid (HRres.out.keeps HK2.out)
  have HKW := Lib.hid (HKW.out.trans HK2.out)
  have HRX := HN
  refine wp_region_keep 5 [] [0, 1, 2, 3, 4] (fun _ => zeros4) (by kernel_rfl) (by kernel_rfl) (by intro i hi; cases hi) ?_
  iterate 3 refine kp (h := ?_)
  refine kl (fun wS hS => (HRX.out.keeps hS)) lXL (h := ?_)
  refine kc (hc := by exact fun wS hS => HBL.out wS (HKW.out.trans hS)) (h := ?_)
  refine keep_nil ?_
  intro GG V2 hk1 hG
  clear hG
  simp only [putsA, dstAt, ptrV, kD, kG, kP, Option.bind_some]
  have HRres := Lib.hid (HRres.out.keeps hk1)
  have HKW := Lib.hid (HKW.out.trans hk1)
  have HRX := Lib.hid (HRX.out.keeps hk1)
  clear hk1
  go_upto_region 6 with (fail)
  obtain ⟨hb0, hb1⟩ := HBR.out
  have hwr : IntKind.u64.wrap (b0 % 2) = b0 % 2 := by rw [IntKind.wrap_u64]; omega
  refine wp_region_keep 10 [] [0, 1, 2, 3, 4, 5, 6, 7, 8, 9] (fun _ => zeros4) (by kernel_rfl) (by kernel_rfl) (by intro i hi; cases hi) ?_
  refine kp (h := ?_)
  refine kl (fun wS hS => (HRX.out.keeps hS)) lXL (h := ?_)
  iterate 2 refine kp (h := ?_)
  refine kp (hx := by (intro wS hS; have c9 := HC0.out wS (HKW.out.trans hS); rw [Nat.add_zero] at c9; go_simp) <;> with_reducible rfl) (h := ?_)
  iterate 2 refine kp (h := ?_)
  refine kc (hc := by exact fun wS hS => HLF.out wS (HKW.out.trans hS)) (h := ?_)
  iterate 2 refine kp (h := ?_)
  refine keep_nil ?_
  intro GG V3 hk1 hG
  clear hG
  simp only [putsA, dstAt, ptrV, kD, kG, kP, Option.bind_some]
  have HRres := Lib.hid (HRres.out.keeps hk1)
  have HKW := Lib.hid (HKW.out.trans hk1)
  clear hk1
  go_wp2_with (refine ws HRres.out lLC (by rw [hZr]) (h := ?_); intro W2 hr2 hc2; have HN := Lib.hid hr2; have HC := Lib.hid hc2; clear hr2 hc2)
  exact bodyPost_ret (results_cell_tmpB (p := 4) (t := 5) (ty := 76) rfl _ _ p 0 _ _ _ rfl rfl HN.out Tryd.underlying76 rfl (by rw [List.length_map, lLC]; exact sz_cpt)) rfl ⟨rfl, nm_keeps_chg HKW.out HC.out (by omega)⟩
/-- 33 bytes as a point: its x and whether y is odd, where there is one -/
def unpN (l : List Int) : Option J := if l.length = 33 ∧ l.getD 0 0 - l.getD 0 0 % 2 = 2 ∧ be (l.drop 1) < PV then (liftN (be (l.drop 1)).toNat (l.getD 0 0 % 2).toNat).map (fun y => ⟨(be (l.drop 1)).toNat, y, 1⟩) else none
def unpC (l : List Int) : List Int := match unpN l with
  | some a => ptW a
  | none => zero12
theorem unpC_len (l : List Int) : (unpC l).length = 12 := by unfold unpC; split <;> rfl
theorem unpN_ok {l : List Int} {a : J} (hb : Bytes l) (h : unpN l = some a) : a.ok ∧ a.z = 1 ∧ On (fp a.x) (fp a.y) := by
  unfold unpN at h
  split at h
  · rename_i hc
    cases hl : liftN (be (l.drop 1)).toNat (l.getD 0 0 % 2).toNat with
    | none => rw [hl] at h; cases h
    | some y =>
      rw [hl] at h
      cases h
      have ho := liftN_on hl
      have hx := be_range (l := l.drop 1) (fun x h => hb x (List.mem_of_mem_drop h))
      have h3 := hc.2.2
      rw [pv_eq] at h3
      exact ⟨⟨by dsimp only; omega, ho.2, (by decide : 1 < PVn)⟩, rfl, ho.1⟩
  · cases h
theorem unpack_any (g : Nat) (v : Value) (l : List Int) (hb : Bytes l) (w : World) (hr : Row w g 0 gCells) (hv : Rd w 1 v l.length (l.map (Value.int .u8))) :
    Calls Tryd.prog 32 #[.pointer (some ⟨g, 0, none⟩), v] w fun e w' => e = .returned (.tuple #[.agg ((unpC l).map (Value.int .u64)).toArray, .bool (unpN l).isSome]) ∧ Keeps w w' := by
  obtain ⟨_, sa, cap, rfl, h2, h3, h4, h5⟩ := hv
  have hsz : cap < 9223372036854775808 := by unfold maxLen at h3; omega
  by_cases hl : l.length = 33
  · cases sa with
    | none => have := (h4 rfl).1; omega
    | some ad =>
      obtain ⟨g2, off, rfl, hg2, hrow⟩ := h5 ad rfl (by omega)
      rw [hl] at h2 ⊢
      have hx := be_range (l := l.drop 1) (fun x h => hb x (List.mem_of_mem_drop h))
      have hx2 := be_u256 (l := l.drop 1) (fun x h => hb x (List.mem_of_mem_drop h)) (by rw [List.length_drop, hl])
      have hb0 := hb.getD 0
      by_cases hok : l.getD 0 0 - l.getD 0 0 % 2 = 2
      · have hN := fun v W hr => cnumber_any v (l.drop 1) W hr (fun x h => hb x (List.mem_of_mem_drop h)) (by rw [List.length_drop, hl])
        have hB := fun W (hk : Keeps w W) => below_any g 0 PV (be (l.drop 1)) PV_u256 hx2 W (gCells_p (hr.keeps hk))
        by_cases hp : be (l.drop 1) < PV
        · rw [decide_eq_true hp] at hB
          have he : unpN l = (liftN (be (l.drop 1)).toNat (l.getD 0 0 % 2).toNat).map (fun y => ⟨(be (l.drop 1)).toNat, y, 1⟩) := by unfold unpN; rw [if_pos ⟨hl, hok, hp⟩]
          have hc : unpC l = liftC (be (l.drop 1)).toNat (l.getD 0 0 % 2).toNat := by
            unfold unpC liftC
            rw [he]
            cases liftN (be (l.drop 1)).toNat (l.getD 0 0 % 2).toNat <;> rfl
          have hd : (unpN l).isSome = (liftN (be (l.drop 1)).toNat (l.getD 0 0 % 2).toNat).isSome := by rw [he]; simp
          rw [hc, hd]
          have hxn : words (be (l.drop 1)) = nw (be (l.drop 1)).toNat := by unfold nw; rw [Int.toNat_of_nonneg hx.1]
          rw [hxn] at hN hB
          exact unpok_walk g g2 off cap l (nw (be (l.drop 1)).toNat) hl hb hok rfl w hrow h2 hsz hN hB _ _ (liftC_len _ _) (fun b hb' W hk => by
            have := lift_any g (be (l.drop 1)).toNat (l.getD 0 0 % 2).toNat (by rw [pv_eq] at hp; omega) W (hr.keeps hk)
            rw [hb']
            rwa [Int.toNat_of_nonneg (by omega)] at this)
        · rw [decide_eq_false hp] at hB
          have he : unpN l = none := by unfold unpN; rw [if_neg (fun h => hp h.2.2)]
          have hc : unpC l = zero12 := by unfold unpC; rw [he]
          rw [hc, he]
          exact unpx_walk g g2 off cap l _ hl hb hok (words_length _) w hrow h2 hsz hN hB
      · have he : unpN l = none := by unfold unpN; rw [if_neg (fun h => hok h.2.1)]
        have hc : unpC l = zero12 := by unfold unpC; rw [he]
        rw [hc, he]
        exact unpb0_walk _ g2 off cap l hl hb hok w hrow
  · have he : unpN l = none := by unfold unpN; rw [if_neg (fun h => hl h.1)]
    have hc : unpC l = zero12 := by unfold unpC; rw [he]
    rw [hc, he]
    exact unplen_walk _ sa l.length cap hl (by omega) w
/-- the public key of a number, as bytes -/
def pubB (k : Nat) : List Int := pkB (flatJ (timesJ k gJ 256)).1 (flatJ (timesJ k gJ 256)).2
theorem pkB_len (x y : Nat) : (pkB x y).length = 33 := by unfold pkB; rw [List.length_cons, toB_length]
theorem pubB_len (k : Nat) : (pubB k).length = 33 := pkB_len _ _
def zeroL33 : List Int := List.replicate 33 0
def pubV (x : Int) : List Int := if keyB x = true then pubB x.toNat else zeroL33
theorem pubV_len (x : Int) : (pubV x).length = 33 := by
  unfold pubV
  split
  · exact pubB_len _
  · rfl
def errV (x : Int) : Int := if keyB x = true then 0 else 1
theorem key_lt {x : Int} (h : keyB x = true) : 0 < x ∧ x < NV := by
  unfold keyB at h
  rwa [decide_eq_true_eq] at h
set_option maxRecDepth 100000 in
set_option maxHeartbeats 2000000 in
theorem ispub_any (v : Value) (l : List Int) (hb : Bytes l) (w : World) (hv : Rd w 1 v l.length (l.map (Value.int .u8))) :
    Calls Tryd.prog 21 #[v] w fun e w' => e = .returned (.bool (unpN l).isSome) ∧ Keeps w w' := by
  have HU := Lib.hid (fun g W hr hv => unpack_any g v l hb W hr hv)
  have HV := Lib.hid hv
  have HCV := Lib.hid curve_any
  have hul := unpC_len l
  generalize unpC l = X at *
  generalize (unpN l).isSome = D at *
  clear hv hb
  go_enter Tryd.func21, Tryd.ntmps21
  go_upto_region 2 with (first | (go_at_call 30; refine (HCV.out _).mono ?_; rintro e W1 ⟨g, rfl, hk1, hgg, hrow⟩; have HK1 := Lib.hid hk1; have HROW := Lib.hid hrow; clear hk1 hrow) | (go_at_call 32; refine (HU.out g _ HROW.out (HV.out.keeps HK1.out)).mono ?_; rintro e W2 ⟨rfl, hk2⟩; have HK2 := Lib.hid (HK1.out.trans hk2); clear hk2) | (refine ws (g := W2.heap.size) (olds := ((List.replicate 12 (0 : Int)).map (Value.int .u64))) (Row.new _ _ _ rfl) hul rfl (h := ?_); intro W3 hr2 hc2; have HK3 := Lib.hid (nm_keeps_chg (nm_keeps_alloc HK2.out _) hc2 HK2.out.size); clear hr2 hc2))
  go_wp2
  go_ret
  exact ⟨rfl, HK3.out⟩
set_option maxRecDepth 100000 in
set_option maxHeartbeats 4000000 in
theorem public_any (l : List Int) (hb : Bytes l) (hl : l.length = 32) (w : World) :
    Calls Tryd.prog 26 #[.agg (l.map (Value.int .u8)).toArray] w fun e w' => e = .returned (.tuple #[.agg ((pubV (be l)).map (Value.int .u8)).toArray, .int .i64 (errV (be l))]) ∧ Keeps w w' := by
  have HKEY := Lib.hid (fun g W hr => gkey_any g l hb hl W hr)
  have HCV := Lib.hid curve_any
  have hwl := words_length (be l)
  have hx := be_u256 hb hl
  by_cases hkey : keyB (be l) = true
  · have h1 := key_lt hkey
    have HBASE := Lib.hid (fun g W hr => base_any g W hr)
    have HTIM := Lib.hid (fun g W hr => times_any g (be l).toNat gJ (by have := h1.2; have := nv_eq; have := n_lt; omega) gJ_ok W hr)
    have hnw : words (be l) = nw (be l).toNat := by unfold nw; rw [Int.toNat_of_nonneg (by omega)]
    rw [← hnw] at HTIM
    have HPAK := Lib.hid (fun g W hr => pack_any g (timesJ (be l).toNat gJ 256) (timesJ_ok _ gJ_ok 256) W hr)
    have hpl := pubB_len (be l).toNat
    rw [show pkB (flatJ (timesJ (be l).toNat gJ 256)).1 (flatJ (timesJ (be l).toNat gJ 256)).2 = pubB (be l).toNat from rfl] at HPAK
    have e1 : pubV (be l) = pubB (be l).toNat := by unfold pubV; rw [if_pos hkey]
    have e2 : errV (be l) = 0 := by unfold errV; rw [if_pos hkey]
    rw [e1, e2]
    rw [hkey] at HKEY
    generalize pubB (be l).toNat = PB at *
    generalize ptW (timesJ (be l).toNat gJ 256) = TM at *
    generalize ptW gJ = GJ at *
    generalize words (be l) = X at *
    clear e1 e2 hkey h1 hnw hx
    go_enter Tryd.func26, Tryd.ntmps26
    go_upto_region 1 with (fail)
    refine cu_rows2 (fun W hk hr hr2 hs => ?_)
    obtain ⟨p, hp⟩ : ∃ p, p = w.heap.size := ⟨_, rfl⟩
    rw [← hp] at hr hr2 hs ⊢
    have hkp : w.heap.size ≤ p := by omega
    obtain ⟨Zr, hZr, hrz⟩ : ∃ Zr : List Value, Zr.length = 33 ∧ Row W (p + 1) 0 Zr := ⟨_, rfl, hr2⟩
    have HR := Lib.hid (show Row W p 0 (l.map (Value.int .u8)) from hr); have HKW := Lib.hid hk; have HRres := Lib.hid hrz
    have hps : p + 1 < W.heap.size := by omega
    clear hp hk hr hr2 hrz hs
    go_upto_region 2 with (go_at_call 30; refine (HCV.out _).mono ?_; rintro e W1 ⟨g, rfl, hk1, hgg, hrow⟩; have HK1 := Lib.hid hk1; have HROW := Lib.hid hrow; clear hk1 hrow)
    have HR := Lib.hid (HR.out.keeps HK1.out)
    go_upto_region 3 with (first | (refine wl HR.out hl (h := ?_)) | (go_at_call 31; refine (HKEY.out g _ HROW.out).mono ?_; rintro e W2 ⟨rfl, hk2⟩; have HK2 := Lib.hid hk2; clear hk2) | (refine ws (g := W2.heap.size) (olds := zeros4) (Row.new _ _ _ rfl) hwl rfl (h := ?_); intro W3 hr2 hc2; have HRX := Lib.hid hr2; have HK3 := Lib.hid (nm_keeps_chg (nm_keeps_alloc HK2.out _) hc2 HK2.out.size); clear hr2 hc2))
    generalize W2.heap.size = q at *
    have HROW := Lib.hid (HROW.out.keeps HK3.out)
    have HKA := Lib.hid (HK1.out.trans HK3.out)
    have HRres := Lib.hid (HRres.out.keeps HKA.out)
    have HKW := Lib.hid (HKW.out.trans HKA.out)
    go_upto_region 5 with (fail)
    refine wp_region_keep 7 [] [0, 1, 2, 3, 4, 5, 6] (fun _ => []) (by kernel_rfl) (by kernel_rfl) (by intro i hi; cases hi) ?_
    iterate 2 refine kp (h := ?_)
    refine kl (fun wS hS => (HRX.out.keeps hS)) hwl (h := ?_)
    refine kp (h := ?_)
    refine kc (hc := by exact fun wS hS => HBASE.out g wS (HROW.out.keeps hS)) (h := ?_)
    refine kc (hc := by exact fun wS hS => HTIM.out g wS (HROW.out.keeps hS)) (h := ?_)
    refine kc (hc := by exact fun wS hS => HPAK.out g wS (HROW.out.keeps hS)) (h := ?_)
    refine keep_nil ?_
    intro GG V4 hk1 hG
    clear hG
    simp only [putsA, dstAt, ptrV, kD, kG, kP, Option.bind_some]
    have HRres := Lib.hid (HRres.out.keeps hk1)
    have HKW := Lib.hid (HKW.out.trans hk1)
    clear hk1
    go_wp2_with (refine ws HRres.out hpl (by rw [hZr]) (h := ?_); intro W8 hr2 hc2; have HN := Lib.hid hr2; have HC := Lib.hid hc2; clear hr2 hc2)
    exact bodyPost_ret (results_cell_tmpB (p := 2) (t := 3) (ty := 25) rfl _ _ (p + 1) 0 _ _ _ rfl rfl HN.out Tryd.underlying25 rfl (by rw [List.length_map, hpl]; exact sz_b33)) rfl ⟨rfl, nm_keeps_chg HKW.out HC.out (by omega)⟩
  · have hkey' : keyB (be l) = false := by simpa using hkey
    have e1 : pubV (be l) = zeroL33 := by unfold pubV; rw [if_neg hkey]
    have e2 : errV (be l) = 1 := by unfold errV; rw [if_neg hkey]
    rw [e1, e2]
    rw [hkey'] at HKEY
    generalize words (be l) = X at *
    clear e1 e2 hkey hkey' hx
    go_enter Tryd.func26, Tryd.ntmps26
    go_upto_region 1 with (fail)
    refine cu_rows2 (fun W hk hr hr2 hs => ?_)
    obtain ⟨p, hp⟩ : ∃ p, p = w.heap.size := ⟨_, rfl⟩
    rw [← hp] at hr hr2 hs ⊢
    have hkp : w.heap.size ≤ p := by omega
    obtain ⟨Zr, hZr, hrz⟩ : ∃ Zr : List Value, Zr.length = 33 ∧ Row W (p + 1) 0 Zr := ⟨_, rfl, hr2⟩
    have HR := Lib.hid (show Row W p 0 (l.map (Value.int .u8)) from hr); have HKW := Lib.hid hk; have HRres := Lib.hid hrz
    clear hp hk hr hr2 hrz hs
    go_upto_region 2 with (go_at_call 30; refine (HCV.out _).mono ?_; rintro e W1 ⟨g, rfl, hk1, hgg, hrow⟩; have HK1 := Lib.hid hk1; have HROW := Lib.hid hrow; clear hk1 hrow)
    have HR := Lib.hid (HR.out.keeps HK1.out)
    go_upto_region 3 with (first | (refine wl HR.out hl (h := ?_)) | (go_at_call 31; refine (HKEY.out g _ HROW.out).mono ?_; rintro e W2 ⟨rfl, hk2⟩; have HK2 := Lib.hid hk2; clear hk2) | (refine ws (g := W2.heap.size) (olds := zeros4) (Row.new _ _ _ rfl) hwl rfl (h := ?_); intro W3 hr2 hc2; have HK3 := Lib.hid (nm_keeps_chg (nm_keeps_alloc HK2.out _) hc2 HK2.out.size); clear hr2 hc2))
    have HKA := Lib.hid (HK1.out.trans HK3.out)
    have HRres := Lib.hid (HRres.out.keeps HKA.out)
    have HKW := Lib.hid (HKW.out.trans HKA.out)
    go_wp2_with (refine wpList_store_row rfl 25 (.tmp 2) (.tmp 16) rfl _ 0 rfl Zr (zeroL33.map (Value.int .u8)) rfl HRres.out (by rw [hZr]; rfl) sz_b33 (int_oneCell _) ?_; intro W8 hr2 hc2; have HN := Lib.hid hr2; have HC := Lib.hid hc2; clear hr2 hc2)
    exact bodyPost_ret (results_cell_tmpB (p := 2) (t := 3) (ty := 25) rfl _ _ (p + 1) 0 _ _ _ rfl rfl HN.out Tryd.underlying25 rfl sz_b33) rfl ⟨rfl, nm_keeps_chg HKW.out HC.out (by omega)⟩
theorem pkB_bytes (x y : Nat) : Bytes (pkB x y) := fun z hz => by
  unfold pkB at hz
  rcases List.mem_cons.1 hz with rfl | hz
  · have : y % 2 < 2 := Nat.mod_lt _ (by decide)
    exact ⟨by omega, by omega⟩
  · exact toB_bytes _ _ z hz
theorem be_toB32 {x : Int} (h : U256 x) : be (toB 32 x) = x := by
  rw [be_toB, Int.emod_eq_of_lt h.1 (Int.lt_of_lt_of_le h.2 (by decide))]
theorem fp_of_val (X : Fin PVn) : fp X.val = X := Fin.ext (by rw [fof_val, Nat.mod_eq_of_lt X.isLt])
theorem unpN_pk {x y : Nat} (hx : x < PVn) (hy : y < PVn) (h : On (fp x) (fp y)) : unpN (pkB x y) = some ⟨x, y, 1⟩ := by
  have h2 : y % 2 < 2 := Nat.mod_lt _ (by decide)
  have hd : (pkB x y).drop 1 = toB 32 (x : Int) := rfl
  have h0 : (pkB x y).getD 0 0 = 2 + ((y % 2 : Nat) : Int) := rfl
  have hbe : be (toB 32 (x : Int)) = (x : Int) := be_toB32 (nat_u256 hx)
  unfold unpN
  rw [hd, hbe, h0, if_pos ⟨pkB_len _ _, by omega, by rw [pv_eq]; exact_mod_cast hx⟩]
  have e1 : ((x : Int)).toNat = x := by omega
  have e2 : ((2 + ((y % 2 : Nat) : Int)) % 2).toNat = y % 2 := by omega
  rw [e1, e2, liftN_of hx hy h]
  rfl
/-- what a number's point is: its coordinates, where it is a key -/
theorem pub_pt {k : Nat} (h0 : 0 < k) (h : k < nVn) : ∃ x y : Nat, x < PVn ∧ y < PVn ∧ On (fp x) (fp y) ∧ mulP gP k = .aff (fp x) (fp y) ∧ flatJ (timesJ k gJ 256) = (x, y) := by
  have hf := flatJ_eq (timesJ_ok k gJ_ok 256) (times_n gJ_ok g_on gJ_jr (Nat.lt_trans h n_lt))
  have hon := gmul_on k
  cases hm : mulP gP k with
  | inf => exact absurd hm (key_ne h0 h)
  | aff X Y =>
    rw [hm] at hf hon
    have ex : fp X.val = X := fp_of_val X
    have ey : fp Y.val = Y := fp_of_val Y
    exact ⟨X.val, Y.val, X.isLt, Y.isLt, by rw [ex, ey]; exact hon, by rw [ex, ey], hf⟩
theorem unp_pub {k : Nat} (h0 : 0 < k) (h : k < nVn) : ∃ x y : Nat, unpN (pubB k) = some ⟨x, y, 1⟩ ∧ x < PVn ∧ y < PVn ∧ On (fp x) (fp y) ∧ mulP gP k = .aff (fp x) (fp y) := by
  obtain ⟨x, y, hx, hy, hon, hm, hf⟩ := pub_pt h0 h
  refine ⟨x, y, ?_, hx, hy, hon, hm⟩
  unfold pubB
  rw [hf]
  exact unpN_pk hx hy hon
def key0 : List Int := List.replicate 32 0
end Go.Proofs.YtlofddoojkeakaaDoor
namespace Go.Proofs.YtlofddoojkeakaaDoor
set_option linter.unusedVariables false
set_option linter.unusedSimpArgs false
open Go Go.RowKit

end Go.Proofs.YtlofddoojkeakaaDoor
namespace Go.Proofs.YtlofddoojkeakaaDoor
set_option linter.unusedVariables false
set_option linter.unusedSimpArgs false
open Go Go.RowKit Go.ChangeShapes Go.WideShapes Go.ChangeAt

theorem own : ownKnob Tryd.prog.godebug = none := by kernel_rfl
theorem laidOut : laidOutB Tryd.prog = true := by kernel_rfl
theorem rd_arg {k : IntKind} {W : World} {a : Addr} {len cap : Nat} {zs : List Int} {p : List MemPlace} (hl : len ≤ cap) (hm : cap ≤ maxLen) (hz : zs.length = cap) (hcell : ∀ i, i < zs.length → W.cell? (a.add i) = some (.int k (zs.getD i 0)))
    (hfz : W.noneFrozen p) (hp : ∀ x ∈ MemPlace.row a zs.length, x ∈ p) : Rd W 1 (.slice (some a) len cap) len ((zs.take len).map (Value.int k)) := by
  refine ⟨by simp; omega, some a, cap, rfl, hl, hm, fun e => (by cases e), fun ad e hn => ?_⟩
  cases e
  obtain ⟨b, off, spot⟩ := a
  have hspot : spot = none := by simpa [Addr.add] using World.cell?_spot (hcell 0 (by omega))
  subst hspot
  have hadd : ∀ i, (⟨b, off, none⟩ : Addr).add i = ⟨b, off + i, none⟩ := fun i => by unfold Addr.add; split <;> simp_all
  have hb : b < W.heap.size := by
    have := hcell 0 (by omega)
    rw [hadd] at this
    exact World.block_lt_of_cell? W _ this
  refine ⟨b, off, rfl, hb, fun j v hv => ?_⟩
  have hj : j < len := by
    have := (List.getElem?_eq_some_iff.1 hv).1
    simp at this; omega
  have hc := hcell j (by omega)
  rw [hadd] at hc
  refine ⟨?_, hfz b (off + j) (hp _ (MemPlace.mem_row.2 ⟨j, by omega, rfl⟩))⟩
  rw [hc]
  have hj2 : j < zs.length := by omega
  simp [hj, hj2] at hv
  rw [← hv]
  simp [List.getD, hj2]
theorem rd_nil (W : World) (k : IntKind) : Rd W 1 (.slice none 0 0) 0 (([] : List Int).map (Value.int k)) :=
  ⟨by simp, none, 0, rfl, Nat.le_refl _, Nat.zero_le _, fun _ => ⟨rfl, rfl⟩, fun ad e _ => (by cases e)⟩
end Go.Proofs.YtlofddoojkeakaaDoor
namespace Go.Proofs.YtlofddoojkeakaaDoor
set_option linter.unusedVariables false
set_option linter.unusedSimpArgs false
open Go Go.RowKit Go.ChangeShapes Go.WideShapes Go.ChangeAt Go.WideMaps Go.ChangeMaps

theorem pubV_bytes (x : Int) : Bytes (pubV x) := by
  unfold pubV
  split
  · exact pkB_bytes _ _
  · intro y hy
    rw [(List.mem_replicate.1 (show y ∈ List.replicate 33 0 from hy)).2]
    exact ⟨by omega, by omega⟩
end Go.Proofs.YtlofddoojkeakaaDoor
