/- hash's line of RIPEMD-160: eighty steps, in either direction of mixing. -/
import Derived.Test.YtgdbaejcbfofoaaRipSpec
namespace Go.Proofs.Ytgdbaejcbfofoaa.Rip
set_option linter.unusedVariables false
set_option linter.unusedSimpArgs false
open Go Go.RowKit

/-- the tables of a line, as a value's cells -/
def roundsV (rt st : List Nat) (kt : List Int) : List Value := (ints rt).map (Value.int .i64) ++ ((ints st).map (Value.int .i64) ++ kt.map (Value.int .u32))
structure TabOk (rt st : List Nat) (kt : List Int) : Prop where
  rl : rt.length = 80
  sl : st.length = 80
  kl : kt.length = 5
  r : ∀ i, i < 80 → rt.getD i 0 < 16
  s : ∀ i, i < 80 → 5 ≤ st.getD i 0 ∧ st.getD i 0 ≤ 15
  k : Words kt
theorem tabL : TabOk rL sL kL := ⟨rfl, rfl, rfl, fun i h => rL_lt ⟨i, h⟩, fun i h => sL_in ⟨i, h⟩, kL_words⟩
theorem tabR : TabOk rR sR kR := ⟨rfl, rfl, rfl, fun i h => rR_lt ⟨i, h⟩, fun i h => sR_in ⟨i, h⟩, kR_words⟩
theorem roundsV_length {rt st : List Nat} {kt : List Int} (h : TabOk rt st kt) : (roundsV rt st kt).length = 165 := by simp [roundsV, ints_length, h.rl, h.sl, h.kl]
theorem row_tabs {W : World} {b o : Nat} {rt st : List Nat} {kt : List Int} (h : TabOk rt st kt) (hr : Row W b o (roundsV rt st kt)) (i : Nat) (hi : i < 80) :
    W.cell? ⟨b, o + i, none⟩ = some (.int .i64 ((rt.getD i 0 : Nat) : Int)) ∧ W.cell? ⟨b, o + 80 + i, none⟩ = some (.int .i64 ((st.getD i 0 : Nat) : Int)) ∧ W.cell? ⟨b, o + 160 + i / 16, none⟩ = some (.int .u32 (kt.getD (i / 16) 0)) := by
  have hl := h.rl; have hl2 := h.sl; have hl3 := h.kl
  refine ⟨?_, ?_, ?_⟩
  · refine (hr i _ ?_).1
    rw [roundsV, List.getElem?_append_left (by simp [ints_length, hl]; exact hi), List.getElem?_map, ← ints_getD]
    simp [List.getD, ints_length, hl, hi]
  · rw [Nat.add_assoc]
    refine (hr (80 + i) _ ?_).1
    rw [roundsV, List.getElem?_append_right (by simp [ints_length, hl]), List.getElem?_append_left (by simp [ints_length, hl, hl2]; exact hi), List.getElem?_map, ← ints_getD]
    simp [List.getD, ints_length, hl, hl2, hi]
  · rw [Nat.add_assoc]
    refine (hr (160 + i / 16) _ ?_).1
    rw [roundsV, List.getElem?_append_right (by simp [ints_length, hl]; omega), List.getElem?_append_right (by simp [ints_length, hl, hl2]; omega), List.getElem?_map]
    simp only [List.length_map, ints_length, hl, hl2]
    rw [show 160 + i / 16 - 80 - 80 = i / 16 by omega]
    have : i / 16 < kt.length := by omega
    simp [List.getD, this]
theorem S5.cells {w : World} {b : Nat} {s : S5} (h : Row w b 0 (s.list.map (Value.int .u32))) : w.cell? ⟨b, 0, none⟩ = some (.int .u32 s.a) ∧ w.cell? ⟨b, 1, none⟩ = some (.int .u32 s.b) ∧ w.cell? ⟨b, 2, none⟩ = some (.int .u32 s.c) ∧ w.cell? ⟨b, 3, none⟩ = some (.int .u32 s.d)
    ∧ w.cell? ⟨b, 4, none⟩ = some (.int .u32 s.e) :=
  ⟨h.int0 0 (by simp [S5.list]), h.int0 1 (by simp [S5.list]), h.int0 2 (by simp [S5.list]), h.int0 3 (by simp [S5.list]), h.int0 4 (by simp [S5.list])⟩
theorem sz5 : (Try.prog.info? 132).map (·.size) = some 5 := by kernel_rfl
theorem mix_int (m : Int) (h0 : 0 ≤ m) (h4 : m ≤ 4) (b c d : Int) (hb : W32 b) (hc : W32 c) (hd : W32 d) (w : World) : Calls Try.prog 127 #[.int .i64 m, .int .u32 b, .int .u32 c, .int .u32 d] w fun e w' => e = .returned (.int .u32 (mixN m.toNat b c d)) ∧ w = w' := by
  obtain ⟨n, rfl⟩ := Int.eq_ofNat_of_zero_le h0
  exact mix_any n (by omega) b c d hb hc hd w
theorem f_int (m : Int) (h0 : 0 ≤ m) (h4 : m ≤ 4) (b c d : Int) (hb : W32 b) (hc : W32 c) (hd : W32 d) (w : World) : Calls Try.prog 101 #[.int .i64 m, .int .u32 b, .int .u32 c, .int .u32 d] w fun e w' => e = .returned (.int .u32 (mixN m.toNat b c d)) ∧ w = w' := by
  obtain ⟨n, rfl⟩ := Int.eq_ofNat_of_zero_le h0
  exact f_any n (by omega) b c d hb hc hd w
set_option maxHeartbeats 800000 in
set_option maxRecDepth 100000 in
theorem line_any (rt st : List Nat) (kt : List Int) (T : TabOk rt st kt) (turned : Bool) (h : S5) (ho : h.ok) (xs : List Int) (hx : xs.length = 16) (hxw : Words xs) (w : World) :
    Calls Try.prog 100 #[.agg (roundsV rt st kt).toArray, .agg (h.list.map (Value.int .u32)).toArray, .agg (xs.map (Value.int .u32)).toArray, .bool turned] w fun e w' => e = .returned (.agg ((lineRun rt st kt turned h xs 80).list.map (Value.int .u32)).toArray) ∧ Keeps w w' := by
  have HT := Lib.hid T; have HXW := Lib.hid hxw; have HX := Lib.hid hx
  clear T hxw hx
  go_enter Try.func100, Try.ntmps100
  go_upto_region 1 with (fail)
  have h1 : Keeps w ((((w.alloc (.cells (roundsV rt st kt).toArray 136)).alloc (.cells (h.list.map (Value.int .u32)).toArray 132)).alloc (.cells (xs.map (Value.int .u32)).toArray 138)).alloc (.cells (List.replicate 5 (Value.int .u32 0)).toArray 132)) := keeps_alloc (keeps_alloc (keeps_alloc (keeps_alloc (Keeps.refl w) _) _) _) _
  obtain ⟨W0, hW0⟩ : ∃ W0, W0 = ((((w.alloc (.cells (roundsV rt st kt).toArray 136)).alloc (.cells (h.list.map (Value.int .u32)).toArray 132)).alloc (.cells (xs.map (Value.int .u32)).toArray 138)).alloc (.cells (List.replicate 5 (Value.int .u32 0)).toArray 132)) := ⟨_, rfl⟩
  have hr4 : Row W0 w.heap.size 0 (roundsV rt st kt) := by rw [hW0]; exact (((Row.new _ _ _ rfl).alloc _).alloc _).alloc _
  have hr5 : Row W0 (w.heap.size + 1) 0 (h.list.map (Value.int .u32)) := by
    have := ((Row.new (w := w.alloc (.cells (roundsV rt st kt).toArray 136)) (h.list.map (Value.int .u32)) _ 132 rfl).alloc (.cells (xs.map (Value.int .u32)).toArray 138)).alloc (.cells (List.replicate 5 (Value.int .u32 0)).toArray 132)
    rw [World.size_alloc] at this
    rw [hW0]; exact this
  have hr6 : Row W0 (w.heap.size + 1 + 1) 0 (xs.map (Value.int .u32)) := by
    have := (Row.new (w := (w.alloc (.cells (roundsV rt st kt).toArray 136)).alloc (.cells (h.list.map (Value.int .u32)).toArray 132)) (xs.map (Value.int .u32)) _ 138 rfl).alloc (.cells (List.replicate 5 (Value.int .u32 0)).toArray 132)
    rw [World.size_alloc, World.size_alloc] at this
    rw [hW0]; exact this
  have hr8 : Row W0 (w.heap.size + 1 + 1 + 1) 0 (List.replicate 5 (Value.int .u32 0)) := by
    have := Row.new (w := ((w.alloc (.cells (roundsV rt st kt).toArray 136)).alloc (.cells (h.list.map (Value.int .u32)).toArray 132)).alloc (.cells (xs.map (Value.int .u32)).toArray 138)) (List.replicate 5 (Value.int .u32 0)) _ 132 rfl
    rw [World.size_alloc, World.size_alloc, World.size_alloc] at this
    rw [hW0]; exact this
  rw [← hW0] at h1
  obtain ⟨b4, hb4⟩ : ∃ b, b = w.heap.size := ⟨_, rfl⟩
  obtain ⟨b5, hb5⟩ : ∃ b, b = w.heap.size + 1 := ⟨_, rfl⟩
  obtain ⟨b6, hb6⟩ : ∃ b, b = w.heap.size + 1 + 1 := ⟨_, rfl⟩
  obtain ⟨b8, hb8⟩ : ∃ b, b = w.heap.size + 1 + 1 + 1 := ⟨_, rfl⟩
  rw [← hb8, ← hb6, ← hb5, ← hb4]
  rw [← hb8] at hr8; rw [← hb6] at hr6; rw [← hb5] at hr5; rw [← hb4] at hr4
  refine wp_gen (fun W => Keeps w W ∧ Row W b4 0 (roundsV rt st kt) ∧ Row W b5 0 (h.list.map (Value.int .u32)) ∧ Row W b6 0 (xs.map (Value.int .u32)) ∧ Row W b8 0 (List.replicate 5 (Value.int .u32 0))) (by subst hW0; exact ⟨h1, hr4, hr5, hr6, hr8⟩) ?_
  clear h1 hr4 hr5 hr6 hr8 hW0 W0
  intro W0 ⟨h1, hr4, hr5, hr6, hr8⟩
  have HP := Lib.hid (show w.heap.size ≤ b4 ∧ w.heap.size ≤ b5 ∧ w.heap.size ≤ b8 ∧ b4 ≠ b5 ∧ b6 ≠ b5 ∧ b8 ≠ b5 by omega)
  clear hb4 hb5 hb6 hb8
  have HK := Lib.hid h1; have HR4 := Lib.hid hr4; have HR5 := Lib.hid hr5; have HR6 := Lib.hid hr6; have HR8 := Lib.hid hr8; have HO := Lib.hid ho
  clear h1 hr4 hr5 hr6 hr8 ho
  go_wp2
  go_loopw [13] (fun c wr => ∃ i : Nat, i ≤ 80 ∧ c = .int .i64 i ∧ Chg (· = b5) W0 wr ∧ Row wr b5 0 ((lineRun rt st kt turned h xs i).list.map (Value.int .u32))) (fun c _ => (80 - intOf c).toNat)
  case atStart => exact ⟨0, by omega, rfl, Chg.refl _ _, HR5.out⟩
  case round =>
    obtain ⟨i, hi, rfl, hch, hrt⟩ := hrel
    by_cases hlt : i < 80
    · obtain ⟨v0, v1, v2, v3, v4⟩ := S5.cells hrt
      obtain ⟨t1, t2, t3⟩ := row_tabs HT.out (HR4.out.chg hch HP.out.2.2.2.1) i hlt
      have hrn := HT.out.r i hlt
      have hsn := HT.out.s i hlt
      have hcx := (HR6.out.chg hch HP.out.2.2.2.2.1).int0 (rt.getD i 0) (by rw [HX.out]; exact hrn)
      have hok := lineRun_ok (rt := rt) (st := st) (kt := kt) (turned := turned) HO.out xs i
      have hxi := HXW.out.getD (rt.getD i 0)
      have hkw := HT.out.k.getD (i / 16)
      have hnx : lineRun rt st kt turned h xs (i + 1) = lineStep (lineRun rt st kt turned h xs i) (way turned i) (xs.getD (rt.getD i 0) 0) (kt.getD (i / 16) 0) (st.getD i 0) := rfl
      generalize lineRun rt st kt turned h xs i = r at *
      generalize rt.getD i 0 = rn at *
      generalize st.getD i 0 = sn at *
      generalize kt.getD (i / 16) 0 = kk at *
      generalize xs.getD rn 0 = xx at *
      obtain ⟨ra, rb, rc, rd, re⟩ := r
      have HV := Lib.hid hrt; have HNX := Lib.hid hnx; have HCH := Lib.hid hch
      clear hrt hnx hch
      obtain ⟨o0, o1, o2, o3, o4⟩ := hok
      simp only [Nat.zero_add] at v0 v1 v2 v3 v4 o0 o1 o2 o3 o4 t1 t2 t3
      have a0 := o0.1; have a1 := o0.2; have e0 := o4.1; have e1 := o4.2
      obtain ⟨x0, x1⟩ := hxi
      obtain ⟨k0, k1⟩ := hkw
      obtain ⟨sn0, sn1⟩ := hsn
      cases turned
      · go_wp2
        have hm0 : (0 : Int) ≤ (i : Int) / 16 := by omega
        have hm4 : (i : Int) / 16 ≤ 4 := by omega
        have hmm := fun w => mix_int ((i : Int) / 16) (by omega) (by omega) rb rc rd o1 o2 o3 w
        have HMM := Lib.hid hmm
        clear hmm
        go_quiet (first | (go_at_call 127; first | exact s1 (HMM.out _) | exact s2 (HMM.out _)) | (go_at_call 126; first | exact s1 (rotl_pos _ _ (by omega) (by omega) (by constructor <;> omega) _) | exact s2 (rotl_pos _ _ (by omega) (by omega) (by constructor <;> omega) _)))
        go_wp2
        refine wp_region_quiet_tail 11 (by kernel_rfl) (by kernel_rfl) ?_
        simp only [List.take_succ_cons, List.take_zero, List.drop_succ_cons, List.drop_zero]
        repeat (first | go_big_quiet_step (((go_at_call 126; first | exact s1 (rotl_pos _ _ (by omega) (by omega) (by assumption) _) | exact s2 (rotl_pos _ _ (by omega) (by omega) (by assumption) _) | exact q1 (rotl_pos _ _ (by omega) (by omega) (by assumption) _) | exact q2 (rotl_pos _ _ (by omega) (by omega) (by assumption) _)))) | quiet_step (((go_at_call 126; first | exact s1 (rotl_pos _ _ (by omega) (by omega) (by assumption) _) | exact s2 (rotl_pos _ _ (by omega) (by omega) (by assumption) _) | exact q1 (rotl_pos _ _ (by omega) (by omega) (by assumption) _) | exact q2 (rotl_pos _ _ (by omega) (by omega) (by assumption) _)))))
        refine wpQuiet_nil ?_
        intro _ hw'
        obtain ⟨nq, hw''⟩ := hw'
        subst hw''
        go_wp2_with (refine wpList_store_row rfl 132 (.tmp 5) (.tmp 63) rfl b5 0 rfl _ [_, _, _, _, _] rfl ((HV.out.drewN _).drewN _) rfl sz5 (by intro v hv; simp only [List.mem_cons, List.not_mem_nil, or_false] at hv; rcases hv with rfl | rfl | rfl | rfl | rfl <;> rfl) ?_; intro w3 hr3 hc3; have HR3 := Lib.hid hr3; have HC3 := Lib.hid hc3; clear hr3 hc3)
        go_roundw
        case rel =>
          refine ⟨i + 1, by omega, by go_num, (HCH.out.trans ((Qt.keeps (by repeat (first | exact Qt.refl _ | exact Qt.drewN _ _ | refine Qt.trans ?_ (Qt.drewN _ _)))).chg _)).trans HC3.out, ?_⟩
          rw [HNX.out]
          have e1 : ((4 : Int) - (i : Int) / 16).toNat = way true i := by show _ = 4 - i / 16; omega
          have hr := HR3.out
          first
            | exact hr
            | (rw [e1] at hr; exact hr)
        case measure => simp [intOf]; omega
      · go_wp2
        have hm0 : (0 : Int) ≤ (i : Int) / 16 := by omega
        have hm4 : (i : Int) / 16 ≤ 4 := by omega
        have hmm := fun w => mix_int (4 - (i : Int) / 16) (by omega) (by omega) rb rc rd o1 o2 o3 w
        have HMM := Lib.hid hmm
        clear hmm
        go_quiet (first | (go_at_call 127; first | exact s1 (HMM.out _) | exact s2 (HMM.out _)) | (go_at_call 126; first | exact s1 (rotl_pos _ _ (by omega) (by omega) (by constructor <;> omega) _) | exact s2 (rotl_pos _ _ (by omega) (by omega) (by constructor <;> omega) _)))
        go_wp2
        refine wp_region_quiet_tail 11 (by kernel_rfl) (by kernel_rfl) ?_
        simp only [List.take_succ_cons, List.take_zero, List.drop_succ_cons, List.drop_zero]
        repeat (first | go_big_quiet_step (((go_at_call 126; first | exact s1 (rotl_pos _ _ (by omega) (by omega) (by assumption) _) | exact s2 (rotl_pos _ _ (by omega) (by omega) (by assumption) _) | exact q1 (rotl_pos _ _ (by omega) (by omega) (by assumption) _) | exact q2 (rotl_pos _ _ (by omega) (by omega) (by assumption) _)))) | quiet_step (((go_at_call 126; first | exact s1 (rotl_pos _ _ (by omega) (by omega) (by assumption) _) | exact s2 (rotl_pos _ _ (by omega) (by omega) (by assumption) _) | exact q1 (rotl_pos _ _ (by omega) (by omega) (by assumption) _) | exact q2 (rotl_pos _ _ (by omega) (by omega) (by assumption) _)))))
        refine wpQuiet_nil ?_
        intro _ hw'
        obtain ⟨nq, hw''⟩ := hw'
        subst hw''
        go_wp2_with (refine wpList_store_row rfl 132 (.tmp 5) (.tmp 63) rfl b5 0 rfl _ [_, _, _, _, _] rfl ((HV.out.drewN _).drewN _) rfl sz5 (by intro v hv; simp only [List.mem_cons, List.not_mem_nil, or_false] at hv; rcases hv with rfl | rfl | rfl | rfl | rfl <;> rfl) ?_; intro w3 hr3 hc3; have HR3 := Lib.hid hr3; have HC3 := Lib.hid hc3; clear hr3 hc3)
        go_roundw
        case rel =>
          refine ⟨i + 1, by omega, by go_num, (HCH.out.trans ((Qt.keeps (by repeat (first | exact Qt.refl _ | exact Qt.drewN _ _ | refine Qt.trans ?_ (Qt.drewN _ _)))).chg _)).trans HC3.out, ?_⟩
          rw [HNX.out]
          have e1 : ((4 : Int) - (i : Int) / 16).toNat = way true i := by show _ = 4 - i / 16; omega
          have hr := HR3.out
          first
            | exact hr
            | (rw [e1] at hr; exact hr)
        case measure => simp [intOf]; omega
    · obtain rfl : i = 80 := by omega
      have hok := lineRun_ok (rt := rt) (st := st) (kt := kt) (turned := turned) HO.out xs 80
      generalize hse : lineRun rt st kt turned h xs 80 = r at *
      have HSE := Lib.hid hse
      clear hse
      have hr8 := HR8.out.chg hch HP.out.2.2.2.2.2
      have hkw := keeps_chg HK.out hch HP.out.2.1
      have Z5 : Hid ((Try.prog.info? 132).map (·.size) = some (r.list.map (Value.int .u32)).length) := Lib.hid sz5
      have HRT := Lib.hid hrt; have HR8b := Lib.hid hr8; have HKW := Lib.hid hkw
      clear hrt hr8 hkw hch hok
      go_wp2_with (first | (refine wpList_load_at rfl 132 (.tmp 5) rfl b5 0 rfl _ _ HRT.out Try.underlying132 rfl Z5.out ?_) | (refine wpList_store_row rfl 132 (.tmp 8) (.tmp 65) rfl b8 0 rfl _ _ rfl HR8b.out rfl Z5.out (int_oneCell _) ?_; intro W10 hr10 hc10; have HR10 := Lib.hid hr10; have HC10 := Lib.hid hc10; clear hr10 hc10))
      exact bodyPost_ret (v := .agg (r.list.map (Value.int .u32)).toArray) (results_cell_at (p := 8) (ty := 132) rfl _ _ b8 0 _ _ rfl HR10.out Try.underlying132 rfl Z5.out) rfl ⟨by rw [HSE.out], keeps_chg HKW.out HC10.out HP.out.2.2.1⟩
end Go.Proofs.Ytgdbaejcbfofoaa.Rip
