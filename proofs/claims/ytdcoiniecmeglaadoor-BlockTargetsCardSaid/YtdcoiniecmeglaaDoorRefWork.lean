/- The reference's Work: the long division. -/
import Derived.Test.YtdcoiniecmeglaaDoorRefDbl
import Derived.Test.YtdcoiniecmeglaaDoorNumWork
import Derived.Test.YtdcoiniecmeglaaDoorBlkAwake
namespace Go.Proofs.YtdcoiniecmeglaaDoor
set_option linter.unusedVariables false
set_option linter.unusedSimpArgs false
open Go Go.RowKit

/-- the blocks of the walk -/
structure WkSt (w wr : World) (p g5 g6 g7 : Nat) (D Q R : List Int) : Prop where
  keeps : Keeps w wr
  rp : Row wr p 0 (zero32.map (Value.int .u8))
  r5 : Row wr g5 0 (Q.map (Value.int .u8))
  r6 : Row wr g6 0 (D.map (Value.int .u8))
  r7 : Row wr g7 0 (R.map (Value.int .u8))
theorem WkSt.more {w wr W : World} {p g5 g6 g7 : Nat} {D Q R : List Int} (h : WkSt w wr p g5 g6 g7 D Q R) (hk : Keeps wr W) : WkSt w W p g5 g6 g7 D Q R := ⟨h.keeps.trans hk, h.rp.keeps hk, h.r5.keeps hk, h.r6.keeps hk, h.r7.keeps hk⟩
theorem WkSt.chg7 {w wr W : World} {p g5 g6 g7 : Nat} {D Q R R' : List Int} (h : WkSt w wr p g5 g6 g7 D Q R) (hp : w.heap.size ≤ p) (h1 : p < g5) (h2 : g5 < g6) (h3 : g6 < g7) (hc : Chg (· = g7) wr W) (hr : Row W g7 0 (R'.map (Value.int .u8))) : WkSt w W p g5 g6 g7 D Q R' :=
  ⟨keeps_chg h.keeps hc (by omega), h.rp.chg hc (by omega), h.r5.chg hc (by omega), h.r6.chg hc (by omega), hr⟩
theorem WkSt.chg5 {w wr W : World} {p g5 g6 g7 : Nat} {D Q Q' R : List Int} (h : WkSt w wr p g5 g6 g7 D Q R) (hp : w.heap.size ≤ p) (h1 : p < g5) (h2 : g5 < g6) (h3 : g6 < g7) (hc : Chg (· = g5) wr W) (hr : Row W g5 0 (Q'.map (Value.int .u8))) : WkSt w W p g5 g6 g7 D Q' R :=
  ⟨keeps_chg h.keeps hc (by omega), h.rp.chg hc (by omega), hr, h.r6.chg hc (by omega), h.r7.chg hc (by omega)⟩
set_option maxRecDepth 100000 in
set_option maxHeartbeats 4000000 in
theorem rwork_walk (x : Int) (TT DD RES : List Int) (Rf Vf Qf QD : Nat → List Int) (OV LS : Nat → Bool) (LE : Nat → Prop) [∀ i, Decidable (LE i)]
    (hlT : TT.length = 32) (hlD : DD.length = 32) (hlR : RES.length = 32) (HRL : Hid (∀ n, (Rf n).length = 32)) (HVL : Hid (∀ n, (Vf n).length = 32)) (HQL : Hid (∀ n, (Qf n).length = 32)) (HQDL : Hid (∀ n, (QD n).length = 32))
    (HTG : Hid (∀ W, Calls Tryd.prog 12 #[.int .u32 x] W fun e w' => e = .returned (.tuple #[.agg (TT.map (Value.int .u8)).toArray, .bool true]) ∧ Keeps W w'))
    (HSUM : Hid (∀ W, Calls Tryd.prog 10 #[.agg (TT.map (Value.int .u8)).toArray, .agg ((toB 32 1).map (Value.int .u8)).toArray] W fun e w' => e = .returned (.agg (DD.map (Value.int .u8)).toArray) ∧ Keeps W w'))
    (HD1 : Hid (∀ i, i ≤ 256 → ∀ W, Calls Tryd.prog 31 #[.agg ((Rf (i + 1)).map (Value.int .u8)).toArray, .int .u8 (if i = 256 then 1 else 0)] W fun e w' => e = .returned (.tuple #[.agg ((Vf i).map (Value.int .u8)).toArray, .bool (OV i)]) ∧ Keeps W w'))
    (HD2 : Hid (∀ i W, Calls Tryd.prog 31 #[.agg ((Qf (i + 1)).map (Value.int .u8)).toArray, .int .u8 0] W fun e w' => ∃ b, e = .returned (.tuple #[.agg ((QD i).map (Value.int .u8)).toArray, .bool b]) ∧ Keeps W w'))
    (HLS : Hid (∀ i W, Calls Tryd.prog 7 #[.agg ((Vf i).map (Value.int .u8)).toArray, .agg (DD.map (Value.int .u8)).toArray] W fun e w' => e = .returned (.bool (LS i)) ∧ Keeps W w'))
    (HMN : Hid (∀ i, LE i → ∀ W, Calls Tryd.prog 32 #[.agg ((Vf i).map (Value.int .u8)).toArray, .agg (DD.map (Value.int .u8)).toArray] W fun e w' => e = .returned (.agg ((Rf i).map (Value.int .u8)).toArray) ∧ Keeps W w'))
    (HLE : Hid (∀ i, (OV i = true ∨ LS i = false) ↔ LE i))
    (HYES : Hid (∀ i, LE i → (QD i).set 31 ((QD i).getD 31 0 + 1) = Qf i ∧ 0 ≤ (QD i).getD 31 0 ∧ (QD i).getD 31 0 ≤ 254)) (HNO : Hid (∀ i, ¬ LE i → Vf i = Rf i ∧ QD i = Qf i))
    (HT1 : Hid (Rf 257 = zero32)) (HT2 : Hid (Qf 257 = zero32)) (HE : Hid (Qf 0 = RES)) (w : World) :
    Calls Tryd.prog 16 #[.int .u32 x] w fun e w' => e = .returned (.agg (RES.map (Value.int .u8)).toArray) ∧ Keeps w w' := by
  have hz9 := zero32_length
  have HZ0 : ∀ (W : World) (a : Act) (o : Oper), o.op = .build 22 #[(31, .const (.int .u8 1))] → (execOp a.eval o).run Tryd.prog W = .ok (.value (.agg ((toB 32 1).map (Value.int .u8)).toArray)) W := fun W a o ho => by
    unfold execOp; rw [ho]; kernel_rfl
  have HONE := Lib.hid HZ0
  clear HZ0
  generalize toB 32 1 = ONE at *
  go_enter Tryd.func16, Tryd.ntmps16
  go_upto_region 1 with (fail)
  refine wp_rows1 (fun W hk hr hs => ?_)
  obtain ⟨p, hp⟩ : ∃ p, p = w.heap.size := ⟨_, rfl⟩
  rw [← hp] at hr hs ⊢
  have hkp : w.heap.size ≤ p := by omega
  have HZ := Lib.hid (show Row W p 0 (zero32.map (Value.int .u8)) from hr); have HK := Lib.hid hk; have HS := Lib.hid hs
  clear hp hr hk hs
  go_upto_region 2 with (first | (go_at_call 12; refine (HTG.out _).mono ?_; rintro e W5 ⟨rfl, hk5⟩; have HK5 := Lib.hid hk5; clear hk5) | (refine wpList_store_row rfl 22 (.tmp 3) (.tmp 15) rfl _ 0 rfl (List.replicate 32 (Value.int .u8 0)) (TT.map (Value.int .u8)) rfl (Row.new _ _ _ rfl) (by simp [hlT]) (sz_a32 TT hlT) (int_oneCell _) ?_; intro w8 hr8 hc8; have H8 := Lib.hid hr8; have HC8 := Lib.hid hc8; clear hr8 hc8))
  have hk8 := laid_keeps (HK.out.trans HK5.out) HC8.out
  have hz8 := HZ.out.keeps (laid_keeps HK5.out HC8.out)
  have hs8 : p + 1 ≤ w8.heap.size := by have := HS.out; have := (laid_keeps HK5.out HC8.out).size; omega
  have hg3 : W5.heap.size < w8.heap.size := by have := HC8.out.size; rw [World.size_alloc] at this; omega
  obtain ⟨g3, hgg⟩ : ∃ g, g = W5.heap.size := ⟨_, rfl⟩
  rw [← hgg] at H8 hg3 ⊢
  have HK8 := Lib.hid hk8; have HZ8 := Lib.hid hz8
  clear HC8 hgg HK5 HK HZ HS hk8 hz8 HTG
  go_upto_region 3 with (fail)
  refine wp_rows1 (fun w9 hk9 hr9 hs9 => ?_)
  obtain ⟨g5, hg5⟩ : ∃ g, g = w8.heap.size := ⟨_, rfl⟩
  rw [← hg5] at hr9 hs9 hs8 hg3 ⊢
  have H5 := Lib.hid (show Row w9 g5 0 (zero32.map (Value.int .u8)) from hr9)
  have H3 := Lib.hid (H8.out.keeps hk9); have HZ9 := Lib.hid (HZ8.out.keeps hk9); have HK9 := Lib.hid (HK8.out.trans hk9)
  clear hg5 hr9 hk9 H8 HZ8 HK8
  go_upto_region 6 with (first | (refine wpList_load_at rfl 22 (.tmp 3) rfl g3 0 rfl (TT.map (Value.int .u8)) _ H3.out Tryd.underlying22 rfl (sz_a32 TT hlT) ?_) | (refine wpList_plain rfl fun _ hK => ?_; unfold Oper.wp; rw [HONE.out _ _ _ rfl]; refine hK _ _ ?_; clear hK) | (go_at_call 10; refine (HSUM.out _).mono ?_; rintro e W10 ⟨rfl, hk10⟩; have HK10 := Lib.hid hk10; clear hk10) | (refine wpList_store_row rfl 22 (.tmp 6) (.tmp 22) rfl _ 0 rfl (List.replicate 32 (Value.int .u8 0)) (DD.map (Value.int .u8)) rfl (Row.new _ _ _ rfl) (by simp [hlD]) (sz_a32 DD hlD) (int_oneCell _) ?_; intro w11 hr11 hc11; have H11 := Lib.hid hr11; have HC11 := Lib.hid hc11; clear hr11 hc11))
  have kk := laid_keeps HK10.out HC11.out
  have h56 : g5 < W10.heap.size := by have := HK10.out.size; omega
  have hs11 : W10.heap.size < w11.heap.size := by have := HC11.out.size; rw [World.size_alloc] at this; omega
  obtain ⟨g6, hg6⟩ : ∃ g, g = W10.heap.size := ⟨_, rfl⟩
  rw [← hg6] at H11 h56 hs11 ⊢
  have H5b := Lib.hid (H5.out.keeps kk); have HZ11 := Lib.hid (HZ9.out.keeps kk); have HK11 := Lib.hid (HK9.out.trans kk)
  clear kk HC11 hg6 H5 H3 HZ9 HK9 HK10 HSUM HONE
  go_upto_region 7 with (fail)
  refine wp_rows1 (fun w12 hk12 hr12 _ => ?_)
  obtain ⟨g7, hg7⟩ : ∃ g, g = w11.heap.size := ⟨_, rfl⟩
  rw [← hg7] at hr12 hs11 ⊢
  have HST := Lib.hid (show WkSt w w12 p g5 g6 g7 DD (Qf 257) (Rf 257) from ⟨HK11.out.trans hk12, HZ11.out.keeps hk12, by rw [HT2.out]; exact H5b.out.keeps hk12, H11.out.keeps hk12, by rw [HT1.out]; exact hr12⟩)
  have hp5 : p < g5 := by omega
  clear hk12 hr12 hg7 HK11 HZ11 H5b H11 HT1 HT2
  go_wp2
  go_loopw [8] (fun c wr => ∃ n : Nat, n ≤ 257 ∧ c = .int .i64 ((n : Int) - 1) ∧ WkSt w wr p g5 g6 g7 DD (Qf n) (Rf n)) (fun c _ => (intOf c + 1).toNat)
  case atStart => exact ⟨257, by omega, rfl, HST.out⟩
  case round =>
    obtain ⟨n, hn, rfl, hst⟩ := hrel
    clear HST
    have HST := Lib.hid hst
    clear hst
    cases n with
    | zero =>
      have hq0 := HE.out
      rw [hq0] at HST
      clear hq0 HE
      rw [show ((0 : Nat) : Int) - 1 = -1 by rfl]
      go_wp2_with (first | (refine wpList_load_at rfl 22 (.tmp 5) rfl g5 0 rfl (RES.map (Value.int .u8)) _ HST.out.r5 Tryd.underlying22 rfl (sz_a32 RES hlR) ?_) | (refine wpList_store_row rfl 22 (.tmp 2) (.tmp 55) rfl p 0 rfl _ (RES.map (Value.int .u8)) rfl HST.out.rp (by simp [hz9, hlR]) (sz_a32 RES hlR) (int_oneCell _) ?_; intro w9 hr9 hc9; have H9 := Lib.hid hr9; have HC9 := Lib.hid hc9; clear hr9 hc9))
      exact bodyPost_ret (v := .agg (RES.map (Value.int .u8)).toArray) (results_cell_at (p := 2) (ty := 22) rfl _ _ p 0 _ _ rfl H9.out Tryd.underlying22 rfl (sz_a32 RES hlR)) rfl ⟨rfl, keeps_chg HST.out.keeps HC9.out hkp⟩
    | succ i =>
      rw [show ((i + 1 : Nat) : Int) - 1 = (i : Int) by omega]
      by_cases h256 : i = 256
      · have hd : ((i : Int) == 256) = true := by rw [beq_iff_eq]; omega
        have h256' := Lib.hid h256
        have hi9 : i ≤ 256 := by omega
        have HD1i := Lib.hid (HD1.out i (by omega))
        rw [if_pos h256] at HD1i
        clear h256
        go_upto_region 13 with (fail)
        have HD2i := Lib.hid (HD2.out i)
        have HLSi := Lib.hid (HLS.out i)
        have HLEi := Lib.hid (HLE.out i)
        have HYi := Lib.hid (HYES.out i); have HNi := Lib.hid (HNO.out i)
        have HMNj := Lib.hid (HMN.out i)
        have hrl := HRL.out (i + 1)
        have hvl := HVL.out i
        have hql := HQL.out (i + 1)
        have hqdl := HQDL.out i
        generalize Rf (i + 1) = R at *
        generalize Qf (i + 1) = Q at *
        generalize Vf i = V at *
        generalize QD i = QQ at *
        generalize OV i = ov at *
        generalize LS i = ls at *
        
        go_upto_region 14 with (first | (refine wpList_load_at rfl 22 (.tmp 7) rfl g7 0 rfl (R.map (Value.int .u8)) _ HST.out.r7 Tryd.underlying22 rfl (sz_a32 R hrl) ?_) | (go_at_call 31; refine (HD1i.out _).mono ?_; rintro e u1 ⟨rfl, hk⟩; have HKU1 := Lib.hid hk; clear hk) | (refine wpList_store_row rfl 22 (.tmp 10) (.tmp 33) rfl _ 0 rfl (List.replicate 32 (Value.int .u8 0)) (V.map (Value.int .u8)) rfl (Row.new _ _ _ rfl) (by simp [hvl]) (sz_a32 V hvl) (int_oneCell _) ?_; intro u2 hr hc; have HRU2 := Lib.hid hr; have HCU2 := Lib.hid hc; clear hr hc))
        have hsu := HST.out.more (laid_keeps HKU1.out HCU2.out)
        generalize u1.heap.size = g10 at *
        have HSU := Lib.hid hsu
        clear HST HCU2 HKU1 hsu HD1i
        go_upto_region 15 with (first | (refine wpList_load_at rfl 22 (.tmp 10) rfl g10 0 rfl (V.map (Value.int .u8)) _ HRU2.out Tryd.underlying22 rfl (sz_a32 V hvl) ?_) | (refine wpList_store_row rfl 22 (.tmp 7) (.tmp 35) rfl g7 0 rfl _ (V.map (Value.int .u8)) rfl HSU.out.r7 (by simp [hrl, hvl]) (sz_a32 V hvl) (int_oneCell _) ?_; intro u3 hr hc; have HRU3 := Lib.hid hr; have HCU3 := Lib.hid hc; clear hr hc))
        have hsv := HSU.out.chg7 hkp hp5 h56 hs11 HCU3.out HRU3.out
        have HSV := Lib.hid hsv
        clear hsv HSU HRU3 HCU3 HRU2
        go_upto_region 16 with (first | (refine wpList_load_at rfl 22 (.tmp 5) rfl g5 0 rfl (Q.map (Value.int .u8)) _ HSV.out.r5 Tryd.underlying22 rfl (sz_a32 Q hql) ?_) | (go_at_call 31; refine (HD2i.out _).mono ?_; rintro e u4 ⟨b4, rfl, hk⟩; have HKU4 := Lib.hid hk; clear hk) | (refine wpList_store_row rfl 22 (.tmp 5) (.tmp 39) rfl g5 0 rfl _ (QQ.map (Value.int .u8)) rfl (HSV.out.r5.keeps HKU4.out) (by simp [hql, hqdl]) (sz_a32 QQ hqdl) (int_oneCell _) ?_; intro u5 hr hc; have HRU5 := Lib.hid hr; have HCU5 := Lib.hid hc; clear hr hc))
        have hsx := (HSV.out.more HKU4.out).chg5 hkp hp5 h56 hs11 HCU5.out HRU5.out
        have HSX := Lib.hid hsx
        clear hsx HSV HRU5 HCU5 HKU4 HD2i
        
        cases ov
        · cases ls
          · have hle := HLEi.out.1 (.inr rfl)
            obtain ⟨hy1, hy2, hy3⟩ := HYi.out hle
            have HMNi := Lib.hid (HMNj.out hle)
            have hr2l := HRL.out i
            clear HYi HNi HMNj HLEi
            obtain ⟨R2, hR2⟩ : ∃ R2, R2 = Rf i := ⟨_, rfl⟩
            rw [← hR2] at HMNi hr2l
            have HR2E := Lib.hid hR2
            clear hR2
            go_upto_region 17 with (first | (refine wpList_load_on (by kernel_rfl) 22 (.tmp 7) rfl g7 0 rfl (V.map (Value.int .u8)) _ HSX.out.r7 Tryd.underlying22 rfl (sz_a32 V hvl) ?_) | (refine wpList_load_on (by kernel_rfl) 22 (.tmp 6) rfl g6 0 rfl (DD.map (Value.int .u8)) _ HSX.out.r6 Tryd.underlying22 rfl (sz_a32 DD hlD) ?_) | (go_at_call 7; refine (HLSi.out _).mono ?_; rintro e u6 ⟨rfl, hk⟩; have HKU6 := Lib.hid hk; clear hk))
            have HSY := Lib.hid (HSX.out.more HKU6.out)
            clear HSX HKU6 HLSi
            go_upto_region 18 with (first | (refine wpList_load_at rfl 22 (.tmp 7) rfl g7 0 rfl (V.map (Value.int .u8)) _ HSY.out.r7 Tryd.underlying22 rfl (sz_a32 V hvl) ?_) | (refine wpList_load_at rfl 22 (.tmp 6) rfl g6 0 rfl (DD.map (Value.int .u8)) _ HSY.out.r6 Tryd.underlying22 rfl (sz_a32 DD hlD) ?_) | (go_at_call 32; refine (HMNi.out _).mono ?_; rintro e u7 ⟨rfl, hk⟩; have HKU7 := Lib.hid hk; clear hk) | (refine wpList_store_row rfl 22 (.tmp 7) (.tmp 50) rfl g7 0 rfl _ (R2.map (Value.int .u8)) rfl (HSY.out.r7.keeps HKU7.out) (by simp [hvl, hr2l]) (sz_a32 R2 hr2l) (int_oneCell _) ?_; intro u8 hr hc; have HRU8 := Lib.hid hr; have HCU8 := Lib.hid hc; clear hr hc))
            have hsz := (HSY.out.more HKU7.out).chg7 hkp hp5 h56 hs11 HCU8.out HRU8.out
            have c31 := hsz.r5.int0 31 (by omega)
            have f31 := hsz.r5.free0 31 (by rw [List.length_map]; omega)
            have hset := hsz.r5.wset 31 (by omega) (QQ.getD 31 0 + 1)
            have hw : IntKind.u8.wrap (QQ.getD 31 0 + 1) = QQ.getD 31 0 + 1 := by rw [IntKind.wrap_u8]; omega
            rw [hy1] at hset
            have HFIN := Lib.hid (show WkSt w (u8.setCell ⟨g5, 31, none⟩ (.int .u8 (QQ.getD 31 0 + 1))) p g5 g6 g7 DD (Qf i) R2 from ⟨keeps_set hsz.keeps (by omega) _, hsz.rp.other (by simp; omega) _, hset, hsz.r6.other (by simp; omega) _, hsz.r7.other (by simp; omega) _⟩)
            clear hset hsz HRU8 HCU8 HKU7 HSY HMNi hy1 HE
            generalize QQ.getD 31 0 = z at *
            go_wp2
            go_roundw
            case rel => exact ⟨i, by omega, by go_num, by rw [← HR2E.out]; exact HFIN.out⟩
            case measure => simp [intOf]
          · have hle : ¬ LE i := fun h => (HLEi.out.2 h).elim (fun h => by cases h) (fun h => by cases h)
            obtain ⟨hn1, hn2⟩ := HNi.out hle
            have HN1 := Lib.hid hn1; have HN2 := Lib.hid hn2
            clear hn1 hn2
            go_upto_region 17 with (first | (refine wpList_load_on (by kernel_rfl) 22 (.tmp 7) rfl g7 0 rfl (V.map (Value.int .u8)) _ HSX.out.r7 Tryd.underlying22 rfl (sz_a32 V hvl) ?_) | (refine wpList_load_on (by kernel_rfl) 22 (.tmp 6) rfl g6 0 rfl (DD.map (Value.int .u8)) _ HSX.out.r6 Tryd.underlying22 rfl (sz_a32 DD hlD) ?_) | (go_at_call 7; refine (HLSi.out _).mono ?_; rintro e u6 ⟨rfl, hk⟩; have HKU6 := Lib.hid hk; clear hk))
            exact ⟨⟨i, by omega, rfl, by rw [← HN1.out, ← HN2.out]; exact HSX.out.more HKU6.out⟩, by simp [intOf]⟩
        · have hle := HLEi.out.1 (.inl rfl)
          obtain ⟨hy1, hy2, hy3⟩ := HYi.out hle
          have HMNi := Lib.hid (HMNj.out hle)
          have hr2l := HRL.out i
          clear HYi HNi HMNj HLEi
          obtain ⟨R2, hR2⟩ : ∃ R2, R2 = Rf i := ⟨_, rfl⟩
          rw [← hR2] at HMNi hr2l
          have HR2E := Lib.hid hR2
          clear hR2
          have HSY := HSX
          clear HSX
          go_upto_region 17 with (fail)
          go_upto_region 18 with (first | (refine wpList_load_at rfl 22 (.tmp 7) rfl g7 0 rfl (V.map (Value.int .u8)) _ HSY.out.r7 Tryd.underlying22 rfl (sz_a32 V hvl) ?_) | (refine wpList_load_at rfl 22 (.tmp 6) rfl g6 0 rfl (DD.map (Value.int .u8)) _ HSY.out.r6 Tryd.underlying22 rfl (sz_a32 DD hlD) ?_) | (go_at_call 32; refine (HMNi.out _).mono ?_; rintro e u7 ⟨rfl, hk⟩; have HKU7 := Lib.hid hk; clear hk) | (refine wpList_store_row rfl 22 (.tmp 7) (.tmp 50) rfl g7 0 rfl _ (R2.map (Value.int .u8)) rfl (HSY.out.r7.keeps HKU7.out) (by simp [hvl, hr2l]) (sz_a32 R2 hr2l) (int_oneCell _) ?_; intro u8 hr hc; have HRU8 := Lib.hid hr; have HCU8 := Lib.hid hc; clear hr hc))
          have hsz := (HSY.out.more HKU7.out).chg7 hkp hp5 h56 hs11 HCU8.out HRU8.out
          have c31 := hsz.r5.int0 31 (by omega)
          have f31 := hsz.r5.free0 31 (by rw [List.length_map]; omega)
          have hset := hsz.r5.wset 31 (by omega) (QQ.getD 31 0 + 1)
          have hw : IntKind.u8.wrap (QQ.getD 31 0 + 1) = QQ.getD 31 0 + 1 := by rw [IntKind.wrap_u8]; omega
          rw [hy1] at hset
          have HFIN := Lib.hid (show WkSt w (u8.setCell ⟨g5, 31, none⟩ (.int .u8 (QQ.getD 31 0 + 1))) p g5 g6 g7 DD (Qf i) R2 from ⟨keeps_set hsz.keeps (by omega) _, hsz.rp.other (by simp; omega) _, hset, hsz.r6.other (by simp; omega) _, hsz.r7.other (by simp; omega) _⟩)
          clear hset hsz HRU8 HCU8 HKU7 HSY HMNi hy1 HE
          generalize QQ.getD 31 0 = z at *
          go_wp2
          go_roundw
          case rel => exact ⟨i, by omega, by go_num, by rw [← HR2E.out]; exact HFIN.out⟩
          case measure => simp [intOf]
      · have hd : ((i : Int) == 256) = false := by rw [beq_eq_false_iff_ne]; omega
        have HD1i := Lib.hid (HD1.out i (by omega))
        rw [if_neg h256] at HD1i
        go_upto_region 13 with (fail)
        have HD2i := Lib.hid (HD2.out i)
        have HLSi := Lib.hid (HLS.out i)
        have HLEi := Lib.hid (HLE.out i)
        have HYi := Lib.hid (HYES.out i); have HNi := Lib.hid (HNO.out i)
        have HMNj := Lib.hid (HMN.out i)
        have hrl := HRL.out (i + 1)
        have hvl := HVL.out i
        have hql := HQL.out (i + 1)
        have hqdl := HQDL.out i
        generalize Rf (i + 1) = R at *
        generalize Qf (i + 1) = Q at *
        generalize Vf i = V at *
        generalize QD i = QQ at *
        generalize OV i = ov at *
        generalize LS i = ls at *
        
        go_upto_region 14 with (first | (refine wpList_load_at rfl 22 (.tmp 7) rfl g7 0 rfl (R.map (Value.int .u8)) _ HST.out.r7 Tryd.underlying22 rfl (sz_a32 R hrl) ?_) | (go_at_call 31; refine (HD1i.out _).mono ?_; rintro e u1 ⟨rfl, hk⟩; have HKU1 := Lib.hid hk; clear hk) | (refine wpList_store_row rfl 22 (.tmp 10) (.tmp 33) rfl _ 0 rfl (List.replicate 32 (Value.int .u8 0)) (V.map (Value.int .u8)) rfl (Row.new _ _ _ rfl) (by simp [hvl]) (sz_a32 V hvl) (int_oneCell _) ?_; intro u2 hr hc; have HRU2 := Lib.hid hr; have HCU2 := Lib.hid hc; clear hr hc))
        have hsu := HST.out.more (laid_keeps HKU1.out HCU2.out)
        generalize u1.heap.size = g10 at *
        have HSU := Lib.hid hsu
        clear HST HCU2 HKU1 hsu HD1i
        go_upto_region 15 with (first | (refine wpList_load_at rfl 22 (.tmp 10) rfl g10 0 rfl (V.map (Value.int .u8)) _ HRU2.out Tryd.underlying22 rfl (sz_a32 V hvl) ?_) | (refine wpList_store_row rfl 22 (.tmp 7) (.tmp 35) rfl g7 0 rfl _ (V.map (Value.int .u8)) rfl HSU.out.r7 (by simp [hrl, hvl]) (sz_a32 V hvl) (int_oneCell _) ?_; intro u3 hr hc; have HRU3 := Lib.hid hr; have HCU3 := Lib.hid hc; clear hr hc))
        have hsv := HSU.out.chg7 hkp hp5 h56 hs11 HCU3.out HRU3.out
        have HSV := Lib.hid hsv
        clear hsv HSU HRU3 HCU3 HRU2
        go_upto_region 16 with (first | (refine wpList_load_at rfl 22 (.tmp 5) rfl g5 0 rfl (Q.map (Value.int .u8)) _ HSV.out.r5 Tryd.underlying22 rfl (sz_a32 Q hql) ?_) | (go_at_call 31; refine (HD2i.out _).mono ?_; rintro e u4 ⟨b4, rfl, hk⟩; have HKU4 := Lib.hid hk; clear hk) | (refine wpList_store_row rfl 22 (.tmp 5) (.tmp 39) rfl g5 0 rfl _ (QQ.map (Value.int .u8)) rfl (HSV.out.r5.keeps HKU4.out) (by simp [hql, hqdl]) (sz_a32 QQ hqdl) (int_oneCell _) ?_; intro u5 hr hc; have HRU5 := Lib.hid hr; have HCU5 := Lib.hid hc; clear hr hc))
        have hsx := (HSV.out.more HKU4.out).chg5 hkp hp5 h56 hs11 HCU5.out HRU5.out
        have HSX := Lib.hid hsx
        clear hsx HSV HRU5 HCU5 HKU4 HD2i
        
        cases ov
        · cases ls
          · have hle := HLEi.out.1 (.inr rfl)
            obtain ⟨hy1, hy2, hy3⟩ := HYi.out hle
            have HMNi := Lib.hid (HMNj.out hle)
            have hr2l := HRL.out i
            clear HYi HNi HMNj HLEi
            obtain ⟨R2, hR2⟩ : ∃ R2, R2 = Rf i := ⟨_, rfl⟩
            rw [← hR2] at HMNi hr2l
            have HR2E := Lib.hid hR2
            clear hR2
            go_upto_region 17 with (first | (refine wpList_load_on (by kernel_rfl) 22 (.tmp 7) rfl g7 0 rfl (V.map (Value.int .u8)) _ HSX.out.r7 Tryd.underlying22 rfl (sz_a32 V hvl) ?_) | (refine wpList_load_on (by kernel_rfl) 22 (.tmp 6) rfl g6 0 rfl (DD.map (Value.int .u8)) _ HSX.out.r6 Tryd.underlying22 rfl (sz_a32 DD hlD) ?_) | (go_at_call 7; refine (HLSi.out _).mono ?_; rintro e u6 ⟨rfl, hk⟩; have HKU6 := Lib.hid hk; clear hk))
            have HSY := Lib.hid (HSX.out.more HKU6.out)
            clear HSX HKU6 HLSi
            go_upto_region 18 with (first | (refine wpList_load_at rfl 22 (.tmp 7) rfl g7 0 rfl (V.map (Value.int .u8)) _ HSY.out.r7 Tryd.underlying22 rfl (sz_a32 V hvl) ?_) | (refine wpList_load_at rfl 22 (.tmp 6) rfl g6 0 rfl (DD.map (Value.int .u8)) _ HSY.out.r6 Tryd.underlying22 rfl (sz_a32 DD hlD) ?_) | (go_at_call 32; refine (HMNi.out _).mono ?_; rintro e u7 ⟨rfl, hk⟩; have HKU7 := Lib.hid hk; clear hk) | (refine wpList_store_row rfl 22 (.tmp 7) (.tmp 50) rfl g7 0 rfl _ (R2.map (Value.int .u8)) rfl (HSY.out.r7.keeps HKU7.out) (by simp [hvl, hr2l]) (sz_a32 R2 hr2l) (int_oneCell _) ?_; intro u8 hr hc; have HRU8 := Lib.hid hr; have HCU8 := Lib.hid hc; clear hr hc))
            have hsz := (HSY.out.more HKU7.out).chg7 hkp hp5 h56 hs11 HCU8.out HRU8.out
            have c31 := hsz.r5.int0 31 (by omega)
            have f31 := hsz.r5.free0 31 (by rw [List.length_map]; omega)
            have hset := hsz.r5.wset 31 (by omega) (QQ.getD 31 0 + 1)
            have hw : IntKind.u8.wrap (QQ.getD 31 0 + 1) = QQ.getD 31 0 + 1 := by rw [IntKind.wrap_u8]; omega
            rw [hy1] at hset
            have HFIN := Lib.hid (show WkSt w (u8.setCell ⟨g5, 31, none⟩ (.int .u8 (QQ.getD 31 0 + 1))) p g5 g6 g7 DD (Qf i) R2 from ⟨keeps_set hsz.keeps (by omega) _, hsz.rp.other (by simp; omega) _, hset, hsz.r6.other (by simp; omega) _, hsz.r7.other (by simp; omega) _⟩)
            clear hset hsz HRU8 HCU8 HKU7 HSY HMNi hy1 HE
            generalize QQ.getD 31 0 = z at *
            go_wp2
            go_roundw
            case rel => exact ⟨i, by omega, by go_num, by rw [← HR2E.out]; exact HFIN.out⟩
            case measure => simp [intOf]
          · have hle : ¬ LE i := fun h => (HLEi.out.2 h).elim (fun h => by cases h) (fun h => by cases h)
            obtain ⟨hn1, hn2⟩ := HNi.out hle
            have HN1 := Lib.hid hn1; have HN2 := Lib.hid hn2
            clear hn1 hn2
            go_upto_region 17 with (first | (refine wpList_load_on (by kernel_rfl) 22 (.tmp 7) rfl g7 0 rfl (V.map (Value.int .u8)) _ HSX.out.r7 Tryd.underlying22 rfl (sz_a32 V hvl) ?_) | (refine wpList_load_on (by kernel_rfl) 22 (.tmp 6) rfl g6 0 rfl (DD.map (Value.int .u8)) _ HSX.out.r6 Tryd.underlying22 rfl (sz_a32 DD hlD) ?_) | (go_at_call 7; refine (HLSi.out _).mono ?_; rintro e u6 ⟨rfl, hk⟩; have HKU6 := Lib.hid hk; clear hk))
            exact ⟨⟨i, by omega, rfl, by rw [← HN1.out, ← HN2.out]; exact HSX.out.more HKU6.out⟩, by simp [intOf]⟩
        · have hle := HLEi.out.1 (.inl rfl)
          obtain ⟨hy1, hy2, hy3⟩ := HYi.out hle
          have HMNi := Lib.hid (HMNj.out hle)
          have hr2l := HRL.out i
          clear HYi HNi HMNj HLEi
          obtain ⟨R2, hR2⟩ : ∃ R2, R2 = Rf i := ⟨_, rfl⟩
          rw [← hR2] at HMNi hr2l
          have HR2E := Lib.hid hR2
          clear hR2
          have HSY := HSX
          clear HSX
          go_upto_region 17 with (fail)
          go_upto_region 18 with (first | (refine wpList_load_at rfl 22 (.tmp 7) rfl g7 0 rfl (V.map (Value.int .u8)) _ HSY.out.r7 Tryd.underlying22 rfl (sz_a32 V hvl) ?_) | (refine wpList_load_at rfl 22 (.tmp 6) rfl g6 0 rfl (DD.map (Value.int .u8)) _ HSY.out.r6 Tryd.underlying22 rfl (sz_a32 DD hlD) ?_) | (go_at_call 32; refine (HMNi.out _).mono ?_; rintro e u7 ⟨rfl, hk⟩; have HKU7 := Lib.hid hk; clear hk) | (refine wpList_store_row rfl 22 (.tmp 7) (.tmp 50) rfl g7 0 rfl _ (R2.map (Value.int .u8)) rfl (HSY.out.r7.keeps HKU7.out) (by simp [hvl, hr2l]) (sz_a32 R2 hr2l) (int_oneCell _) ?_; intro u8 hr hc; have HRU8 := Lib.hid hr; have HCU8 := Lib.hid hc; clear hr hc))
          have hsz := (HSY.out.more HKU7.out).chg7 hkp hp5 h56 hs11 HCU8.out HRU8.out
          have c31 := hsz.r5.int0 31 (by omega)
          have f31 := hsz.r5.free0 31 (by rw [List.length_map]; omega)
          have hset := hsz.r5.wset 31 (by omega) (QQ.getD 31 0 + 1)
          have hw : IntKind.u8.wrap (QQ.getD 31 0 + 1) = QQ.getD 31 0 + 1 := by rw [IntKind.wrap_u8]; omega
          rw [hy1] at hset
          have HFIN := Lib.hid (show WkSt w (u8.setCell ⟨g5, 31, none⟩ (.int .u8 (QQ.getD 31 0 + 1))) p g5 g6 g7 DD (Qf i) R2 from ⟨keeps_set hsz.keeps (by omega) _, hsz.rp.other (by simp; omega) _, hset, hsz.r6.other (by simp; omega) _, hsz.r7.other (by simp; omega) _⟩)
          clear hset hsz HRU8 HCU8 HKU7 HSY HMNi hy1 HE
          generalize QQ.getD 31 0 = z at *
          go_wp2
          go_roundw
          case rel => exact ⟨i, by omega, by go_num, by rw [← HR2E.out]; exact HFIN.out⟩
          case measure => simp [intOf]
end Go.Proofs.YtdcoiniecmeglaaDoor
