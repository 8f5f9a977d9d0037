/- block.Merkle. -/
import Derived.Test.YtclhjlkgmeofcaaDoorGD9
import Derived.Test.YtclhjlkgmeofcaaDoorGD1
namespace Go.Proofs.YtclhjlkgmeofcaaDoor
set_option linter.unusedVariables false
set_option linter.unusedSimpArgs false
open Go Go.RowKit Go.Shelf

theorem sz_sum0 : (Tryd.prog.info? 76).map (·.size) = some 11 := by kernel_rfl
set_option maxRecDepth 100000 in
set_option maxHeartbeats 2000000 in
theorem merkle_nil (l : List (List Int)) (hs : l.length = 0) (v : Value) (w : World) (h : RH w v l) :
    Calls Tryd.prog 8 #[v] w fun e w' => e = .returned (.agg ((merkD l).map (Value.int .u8)).toArray) ∧ Keeps w w' := by
  obtain ⟨a, cap, rfl, hcap, hcm⟩ := h.any
  obtain rfl : l = [] := List.eq_nil_of_length_eq_zero hs
  have hmo := merkD_ok [] h.ok
  have Z32 := Lib.hid (sz_h _ hmo.1)
  have hms := merkD_small [] (by simp)
  have HM0 : Hid ((merkD []).map (Value.int .u8) = z32) := Lib.hid (by rw [hms, z32_zero]; rfl)
  have HZ0 : ∀ (W : World) (a : Act) (o : Oper), o.op = .build 24 #[] → (execOp a.eval o).run Tryd.prog W = .ok (.value (.agg z32.toArray)) W := fun W a o ho => by
    unfold execOp; rw [ho]; kernel_rfl
  have HZ := Lib.hid HZ0
  clear HZ0 hms hmo h
  rw [HM0.out] at Z32 ⊢
  have HZL : Hid (z32.length = 32) := Lib.hid rfl
  have HZ1 : Hid (∀ v ∈ z32, v.oneCell' = true) := Lib.hid (by rw [z32_zero]; exact int_oneCell _)
  go_enter Tryd.func8, Tryd.ntmps8
  go_upto_region 1 with (fail)
  refine wp_gen (fun W => Keeps w W ∧ Row W w.heap.size 0 z32) ⟨keeps_alloc (Keeps.refl w) _, Row.new _ _ _ rfl⟩ ?_
  intro W1 ⟨hk, hr⟩
  have HK := Lib.hid hk; have HR := Lib.hid hr
  clear hk hr
  generalize hZ : z32 = ZZ at *
  have HZE := Lib.hid hZ
  clear hZ
  go_wp2_with (first | (refine wpList_zero_on (by kernel_rfl) 24 rfl _ (HZ.out _ _ _ rfl) ?_) | ((with_reducible refine gate_store 24 (.tmp 2) (.tmp 10) ?_); refine wpList_store_row rfl 24 (.tmp 2) (.tmp 10) rfl w.heap.size 0 rfl ZZ ZZ rfl HR.out rfl Z32.out HZ1.out ?_; intro W9 hr9 hc9; have HR9 := Lib.hid hr9; have HC9 := Lib.hid hc9; clear hr9 hc9))
  refine bodyPost_ret (v := .agg ZZ.toArray) (results_cell_at (p := 2) (ty := 24) rfl _ _ w.heap.size 0 _ _ rfl HR9.out Tryd.underlying24 rfl Z32.out) rfl ?_
  exact ⟨by rw [HZE.out], keeps_chg HK.out HC9.out (Nat.le_refl _)⟩
set_option maxRecDepth 100000 in
set_option maxHeartbeats 8000000 in
theorem merkle_any (l : List (List Int)) (w : World) (v : Value) (h : RH w v l) :
    Calls Tryd.prog 8 #[v] w fun e w' => e = .returned (.agg ((merkD l).map (Value.int .u8)).toArray) ∧ Keeps w w' := by
  have HH := Lib.hid h
  obtain ⟨a, cap, rfl, hcap, hcm⟩ := h.any
  have hsm := h.small
  have hmo := merkD_ok l h.ok
  have Z32 := Lib.hid (sz_h _ hmo.1); have HML := Lib.hid hmo.1
  clear hmo
  by_cases h0 : l.length = 0
  · exact merkle_nil l h0 _ w HH.out
  · have hz0 : ((l.length : Int) == 0) = false := beq_eq_false_iff_ne.2 (by omega)
    have HLD := Lib.hid (show ∃ L, L = merkD l from ⟨_, rfl⟩)
    obtain ⟨MD, hMD⟩ := HLD.out
    rw [← hMD] at Z32 HML ⊢
    have HMD := Lib.hid hMD
    clear hMD h HLD
    refine (callsIn_wide (n := 3)).1 (callsIn_of_wp_marks Tryd.func8 rfl trivial (wpIn_wide.2 ?_) rfl)
    simp only [Tryd.ntmps8, List.size_toArray, List.length_cons, List.length_nil, Nat.reduceAdd, Nat.reduceSub, Array.replicate_succ, Array.replicate_zero, List.push_toArray, List.append_toArray, List.nil_append, List.cons_append]
    go_upto_region 1 with (fail)
    refine wp_gen (fun W => Keeps w W ∧ Row W w.heap.size 0 z32) ⟨keeps_alloc (Keeps.refl w) _, Row.new _ _ _ rfl⟩ ?_
    intro W1 ⟨hk, hr⟩
    have HK := Lib.hid hk; have HR := Lib.hid hr
    clear hk hr
    obtain ⟨p, hp⟩ : ∃ p, p = w.heap.size := ⟨_, rfl⟩
    rw [← hp] at HR ⊢
    have HP := Lib.hid hp
    clear hp
    have HCL := Lib.hid (sclH_any _ _ (hCells l) W1 (HH.out.rd.keeps HK.out) (hCells_one l) hsm)
    go_wp2_with (go_at_call 28; refine HCL.out.mono ?_; rintro e W2 ⟨v2, rfl, hk2, hb2, hn2⟩; obtain ⟨a2, c2, rfl, hc2, hc2m, -⟩ := hb2.any; have HK2 := Lib.hid hk2; have HB2 := Lib.hid hb2; have HN2 := Lib.hid hn2; clear hk2 hb2 hn2)
    clear hz0
    have hst : RH W2 (.slice a2 l.length c2) l := ⟨HB2.out.rd, HH.out.ok, hsm⟩
    have HST := Lib.hid hst
    clear hst HCL HB2 HN2 HH
    refine wp_loop (fun A W => ∃ (L : List (List Int)) (b : Option Addr) (c : Nat) (ds : List Deferred) (x4 x13 x14 x15 x16 x17 x34 : Value),
      A = { tmps := #[.slice a l.length cap, undef, .pointer (some ⟨p, 0, none⟩), .slice b L.length c, x4, undef, undef, .slice a l.length cap, .int .i64 l.length, .bool false, undef, .slice a l.length cap, .slice a2 l.length c2, x13, x14, x15, x16, x17, undef, undef, undef, undef, undef, undef, undef, undef, undef, undef, undef, undef, undef, undef, undef, undef, x34, undef, undef, undef], defers := ds } ∧
      Hid (Keeps W1 W) ∧ Hid (RH W (.slice b L.length c) L) ∧ 0 < L.length ∧ Hid (merkD L = MD) ∧ Hid (Marks W1.heap.size W ds)) (fun A _ => slLen (A.tmps.getD 3 undef)) ?_ ?_
    · exact ⟨l, a2, c2, [], undef, undef, undef, undef, undef, undef, undef, rfl, HK2, HST, by omega, Lib.hid HMD.out.symm, Lib.hid trivial⟩
    · rintro A W ⟨L, b, c, ds, x4, x13, x14, x15, x16, x17, x34, rfl, HKR, HRL, hL0, HME, HDS⟩
      by_cases hL : 1 < L.length
      · go_upto_region 6 with (fail)
        go_wp2_with (go_at_call 29; refine (chunkh_any _ _ _ _).mono ?_; rintro e W5 ⟨rfl, rfl⟩)
        obtain ⟨g, off, e0, hg, -⟩ := HRL.out.at (i := 0) (by omega)
        subst e0
        obtain ⟨hc1, hc2'⟩ : L.length ≤ c ∧ c ≤ maxLen := by obtain ⟨_, _, e, h1, h2⟩ := HRL.out.any; cases e; exact ⟨h1, h2⟩
        have hLs := HRL.out.small
        have hmi : MI W (((W.alloc (.cells #[.slice none 0 0] 22)).alloc (.cells #[.slice (some ⟨g, off, none⟩) L.length c] 22)).alloc (.cells #[.int .i64 2] 3)) W.heap.size (.slice none 0 0) [] :=
          ⟨keeps_alloc (keeps_alloc (keeps_alloc (Keeps.refl W) _) _) _, ((Row.new [Value.slice none 0 0] _ 22 rfl : Row (W.alloc _) _ _ _).alloc _).alloc _, Buf.nil _ _, fun g e => by simp [Value.ownBlock] at e, fun y hy => (by cases hy), Nat.le_refl _, by simp, fun _ => rfl⟩
        refine wp_gen (fun W' => MI W W' W.heap.size (.slice none 0 0) [] ∧ W'.cell? ⟨W.heap.size + 1, 0, none⟩ = some (.slice (some ⟨g, off, none⟩) L.length c) ∧ W'.cell? ⟨W.heap.size + 1 + 1, 0, none⟩ = some (.int .i64 2) ∧ W'.heap.size = W.heap.size + 3) ?_ ?_
        · refine ⟨hmi, ?_, ?_, by simp⟩
          · have := (((Row.new [Value.slice (some ⟨g, off, none⟩) L.length c] _ 22 rfl : Row ((W.alloc (.cells #[.slice none 0 0] 22)).alloc _) _ _ _).alloc (.cells #[.int .i64 2] 3)) 0 _ rfl).1
            rwa [Nat.zero_add, World.size_alloc] at this
          · have := ((Row.new [Value.int .i64 2] _ 3 rfl : Row (((W.alloc (.cells #[.slice none 0 0] 22)).alloc (.cells #[.slice (some ⟨g, off, none⟩) L.length c] 22)).alloc _) _ _ _) 0 _ rfl).1
            rwa [Nat.zero_add, World.size_alloc, World.size_alloc] at this
        clear hmi
        intro WC ⟨hmi, hbs, hbn, hsz⟩
        have HMI := Lib.hid hmi
        clear hmi
        obtain ⟨q, hq⟩ : ∃ q, q = W.heap.size := ⟨_, rfl⟩
        rw [← hq] at HMI hbs hbn hsz ⊢
        have HQ := Lib.hid hq
        clear hq
        obtain ⟨B, hB⟩ : ∃ B, B = (L.length + 1) / 2 := ⟨_, rfl⟩
        refine (wpIn_wide (n := 3)).1 (wpIn_rangeFunc_ownG (α := Fin B) rfl (by omega) (gf := 68) (lb := #[.pointer (some ⟨q + 1, 0, none⟩), .pointer (some ⟨q + 1 + 1, 0, none⟩)]) rfl trivial (enters_of Tryd.func68 (by kernel_rfl) rfl)
          (chunkh_stops _ (by omega) (q + 1) (q + 1 + 1) WC.heap.size q g off L.length B c hB (by omega) hc1 hc2' (by omega) (by omega) (by omega) (by omega) WC (Nat.le_refl _) hbs hbn) (fun h k => Chg.trans h k) (KpC.b (Nat.le_refl _)) (Below.refl _ _) (fun _ => rfl)
          (fun ys W' => ∃ v, MI W W' q v (ys.map (fun x => pairD L x.val)))
          (fun _ _ _ => False)
          (mi_own _ W (by have := HQ.out; omega) q _)
          (fun _ _ _ _ _ hs _ _ => hs)
          ⟨_, HMI.out⟩
          (fun x => { tmps := #[.slice a l.length cap, undef, .pointer (some ⟨p, 0, none⟩), .slice (some ⟨g, off, none⟩) L.length c, .pointer (some ⟨q, 0, none⟩), .slice (some ⟨g, off + (2 * x.val) * 32, none⟩) (partLen L.length x.val) (partLen L.length x.val), undef, .slice a l.length cap, .int .i64 l.length, .bool false, undef, .slice a l.length cap, .slice a2 l.length c2, .slice (some ⟨g, off, none⟩) L.length c, .int .i64 L.length, .bool true, .slice (some ⟨g, off, none⟩) L.length c, .func (.func 68) #[] #[.pointer (some ⟨q + 1, 0, none⟩), .pointer (some ⟨q + 1 + 1, 0, none⟩)], .slice (some ⟨g, off + (2 * x.val) * 32, none⟩) (partLen L.length x.val) (partLen L.length x.val), undef, undef, undef, undef, undef, undef, undef, undef, undef, undef, undef, undef, undef, undef, undef, x34, undef, undef, undef], defers := [] }) ?assign ?body ?done ?stop)
        case assign =>
          intro l x W K hK
          have hsem := @Oper.semAt_some
          gi_wp2
          exact hK
        case body =>
          rintro l0 pre x WB ⟨v, hm⟩ hlen
          have hx := x.isLt
          have hx2 : 2 * x.val < L.length := by omega
          have hL2 := HRL.out.keeps hm.keeps
          obtain ⟨_, _, e1, hgA, hA⟩ := hL2.at (i := 2 * x.val) hx2
          cases e1
          obtain ⟨hlA, hbA⟩ := hL2.ok.getD hx2
          obtain ⟨hlB, hbB⟩ := hL2.ok.getD (show min (2 * x.val + 1) (L.length - 1) < L.length by omega)
          obtain ⟨_, _, e2, -, hBB⟩ := hL2.at (show min (2 * x.val + 1) (L.length - 1) < L.length by omega)
          cases e2
          have hml : (pre.map (fun x => pairD L x.val)).length = pre.length := by simp
          have hpd : (pre ++ [x]).map (fun x => pairD L x.val) = pre.map (fun x => pairD L x.val) ++ [dsha (L.getD (2 * x.val) [] ++ L.getD (min (2 * x.val + 1) (L.length - 1)) [])] := by simp [pairD]
          have hmm : (min (2 * x.val + 1) (L.length - 1) = 2 * x.val + 1 ∧ partLen L.length x.val = 2) ∨ (min (2 * x.val + 1) (L.length - 1) = 2 * x.val ∧ partLen L.length x.val = 1) := by unfold partLen; omega
          have HPD := Lib.hid hpd
          clear hpd
          generalize L.getD (2 * x.val) [] = XA at *
          generalize L.getD (min (2 * x.val + 1) (L.length - 1)) [] = XB at *
          generalize pre.map (fun x => pairD L x.val) = LP at *
          have hs0 : SumAt (WB.alloc (.cells zeroSum.toArray 76)) WB.heap.size 0 (.slice none 0 0) [] := sumAt_zero (Row.new zeroSum _ _ rfl)
          have hwb := hm.sz
          have hgs : g < WB.heap.size := hgA
          have h32A : (XA.map (Value.int .u8)).length = 32 * 1 := by rw [List.length_map, hlA]
          have hadd1 : Calls Tryd.prog 30 #[.pointer (some ⟨WB.heap.size, 0, none⟩), .slice (some ⟨g, off + 2 * x.val * 32, none⟩) 32 32] (WB.alloc (.cells zeroSum.toArray 76)) fun e w' => e = .returned (.tuple #[]) ∧ ∃ wv, Keeps WB w' ∧ SumAt w' WB.heap.size 0 wv XA ∧ (∀ k, wv.ownBlock = some k → WB.heap.size < k) := by
            refine (sum_add WB.heap.size 0 _ [] _ 32 XA _ hs0 (Rd.of_row (hA.alloc _) (by omega) (by simp; omega) (Nat.le_refl _) (by unfold maxLen; omega)) hbA (by omega) (by simp) (fun _ e => by simp [Value.ownBlock] at e; omega)).mono ?_
            rintro e w' ⟨rfl, wv, h1, h2, h3⟩
            refine ⟨rfl, wv, ?_, h1, fun k e => ?_⟩
            · refine Below.trans (keeps_alloc (Keeps.refl WB) _) (h2.below (by simp) (fun k hk e => ?_))
              rcases e with e | e
              · omega
              · simp [Value.ownBlock] at e
            · rcases h3 k e with h | h
              · simp [Value.ownBlock] at h
              · have := World.size_alloc WB (.cells zeroSum.toArray 76); omega
          have hadd2 : ∀ (W : World) (wv : Value) (o2 : Nat), Keeps WB W → SumAt W WB.heap.size 0 wv XA → (∀ k, wv.ownBlock = some k → WB.heap.size < k) → Row W g o2 (XB.map (Value.int .u8)) → Calls Tryd.prog 30 #[.pointer (some ⟨WB.heap.size, 0, none⟩), .slice (some ⟨g, o2, none⟩) 32 32] W fun e w' => e = .returned (.tuple #[]) ∧ ∃ wv, Keeps WB w' ∧ SumAt w' WB.heap.size 0 wv (XA ++ XB) := by
            intro W wv o2 hk hs hw hr
            refine (sum_add WB.heap.size 0 wv XA _ 32 XB _ hs (Rd.of_row hr (by simp [hlB]) (Nat.lt_of_lt_of_le hgs hk.size) (Nat.le_refl _) (by unfold maxLen; omega)) hbB (by omega) (by omega) (fun _ e => by simp [Value.ownBlock] at e; omega)).mono ?_
            rintro e w' ⟨rfl, wv', h1, h2, h3⟩
            refine ⟨rfl, wv', ?_, h1⟩
            exact Below.trans hk (h2.below hk.size (fun k hk2 e => by
              rcases e with e | e
              · omega
              · have := hw k e; omega))
          obtain ⟨oA, hoA⟩ : ∃ oA, oA = off + 2 * x.val * 32 := ⟨_, rfl⟩
          rw [← hoA] at hadd1 ⊢
          have HOA := Lib.hid hoA
          have hBB2 : min (2 * x.val + 1) (L.length - 1) = 2 * x.val + 1 → Row WB g (oA + 32) (XB.map (Value.int .u8)) := fun e => by rw [e, show off + (2 * x.val + 1) * 32 = oA + 32 by omega] at hBB; exact hBB
          have hBB1 : min (2 * x.val + 1) (L.length - 1) = 2 * x.val → Row WB g oA (XB.map (Value.int .u8)) := fun e => by rw [e, ← hoA] at hBB; exact hBB
          clear hoA
          have HADD1 := Lib.hid hadd1; have HADD2 := Lib.hid hadd2; have HM := Lib.hid hm; have HBB1 := Lib.hid hBB1; have HBB2 := Lib.hid hBB2
          clear hadd1 hadd2 hs0 hBB hBB1 hBB2 hA hL2
          have hsem := @Oper.semAt_some
          rcases hmm with ⟨hm1, hm2⟩ | ⟨hm1, hm2⟩
          · have HHB := Lib.hid (HBB2.out hm1)
            rw [hm2]
            clear hm1 hm2
            dsimp only
            gi_wp2_with (refine ⟨trivial, ?_⟩; gi_at_call 30; first | (refine (CallsIn.inRound l0 (callsIn_wide.2 (HADD2.out _ _ _ HK1.out HS1.out HW1.out (HHB.out.keeps HK1.out)))).mono ?_; rintro e W2 ⟨rfl, wv2, hk2, hs2⟩; have HK2 := Lib.hid hk2; have HS2 := Lib.hid hs2; clear hk2 hs2) | (refine (CallsIn.inRound l0 (callsIn_wide.2 HADD1.out)).mono ?_; rintro e W1 ⟨rfl, wv1, hk1, hs1, hw1⟩; have HK1 := Lib.hid hk1; have HS1 := Lib.hid hs1; have HW1 := Lib.hid hw1; clear hk1 hs1 hw1))
            refine r11_round (q := q) (s := WB.heap.size) (L := LP) (v := v) (wv := wv2) (zs := XA ++ XB) (hts := rfl) (h4 := rfl) (h6 := rfl) rfl ⟨_, rfl, rfl, rfl, rfl⟩ ⟨_, rfl, rfl, rfl, rfl⟩ ⟨_, rfl, rfl, rfl, rfl⟩ ⟨_, rfl, rfl, rfl, rfl⟩ ⟨_, rfl, rfl, rfl, rfl⟩ (by kernel_rfl) (by kernel_rfl) (by kernel_rfl) (by kernel_rfl) (by kernel_rfl) (by kernel_rfl) (by kernel_rfl) (by kernel_rfl) (by kernel_rfl)
              (HM.out.step HK2.out) HS2.out (by rw [List.length_append, hlA, hlB]; omega) (by omega) ?_
            intro v' a' W' hmi hch hdf
            have HMI2 := Lib.hid hmi; have HCH := Lib.hid hch
            clear hmi hch
            gi_wp2
            exact ⟨HM.out.from HK2.out HCH.out _, HM.out.kp HK2.out HCH.out, v', by rw [HPD.out]; exact HMI2.out⟩
          · have HHB := Lib.hid (HBB1.out hm1)
            rw [hm2]
            clear hm1 hm2
            dsimp only
            gi_wp2_with (refine ⟨trivial, ?_⟩; gi_at_call 30; first | (refine (CallsIn.inRound l0 (callsIn_wide.2 (HADD2.out _ _ _ HK1.out HS1.out HW1.out (HHB.out.keeps HK1.out)))).mono ?_; rintro e W2 ⟨rfl, wv2, hk2, hs2⟩; have HK2 := Lib.hid hk2; have HS2 := Lib.hid hs2; clear hk2 hs2) | (refine (CallsIn.inRound l0 (callsIn_wide.2 HADD1.out)).mono ?_; rintro e W1 ⟨rfl, wv1, hk1, hs1, hw1⟩; have HK1 := Lib.hid hk1; have HS1 := Lib.hid hs1; have HW1 := Lib.hid hw1; clear hk1 hs1 hw1))
            refine r11_round (q := q) (s := WB.heap.size) (L := LP) (v := v) (wv := wv2) (zs := XA ++ XB) (hts := rfl) (h4 := rfl) (h6 := rfl) rfl ⟨_, rfl, rfl, rfl, rfl⟩ ⟨_, rfl, rfl, rfl, rfl⟩ ⟨_, rfl, rfl, rfl, rfl⟩ ⟨_, rfl, rfl, rfl, rfl⟩ ⟨_, rfl, rfl, rfl, rfl⟩ (by kernel_rfl) (by kernel_rfl) (by kernel_rfl) (by kernel_rfl) (by kernel_rfl) (by kernel_rfl) (by kernel_rfl) (by kernel_rfl) (by kernel_rfl)
              (HM.out.step HK2.out) HS2.out (by rw [List.length_append, hlA, hlB]; omega) (by omega) ?_
            intro v' a' W' hmi hch hdf
            have HMI2 := Lib.hid hmi; have HCH := Lib.hid hch
            clear hmi hch
            gi_wp2
            exact ⟨HM.out.from HK2.out HCH.out _, HM.out.kp HK2.out HCH.out, v', by rw [HPD.out]; exact HMI2.out⟩
        case done =>
          rintro D ys W' hD rfl ⟨v, hm⟩ hdef
          have hup : (List.finRange B).map (fun x => pairD L x.val) = upD L := by
            rw [hB]; unfold upD
            apply List.ext_getElem
            · simp
            · intro i h1 h2
              simp
          rw [hup] at hm
          obtain ⟨vb, vc, hv, hvc, hvm, -⟩ := hm.buf.any
          subst hv
          have c0 := (hm.cell 0 _ rfl).1
          rw [Nat.zero_add] at c0
          have HM := Lib.hid hm; have HDF := Lib.hid hdef; have HDD := Lib.hid hD
          have hul := upD_length L
          have HUL := Lib.hid hul
          have HWC := HMI.out.keeps.size
          clear hm hdef hup hul hbs hbn hsz HMI hB
          go_wp2
          have hul := HUL.out
          have hd2 : Marks W1.heap.size W' ({ target := .collected D, args := #[] } :: ds) :=
            (HDS.out.keeps HM.out.keeps).cons (by have h1 := HKR.out.size; have h2 := HDD.out; omega) HDF.out (fun D' hm => by
              obtain ⟨D2, e, _, h2⟩ := HDS.out.mem _ hm
              cases e
              have h3 := (Array.getElem?_eq_some_iff.1 h2).1
              have h4 := HDD.out
              omega)
          refine ⟨⟨upD L, vb, vc, _, _, _, _, _, _, _, _, rfl, Lib.hid (HKR.out.trans HM.out.keeps), Lib.hid ⟨HM.out.buf.rd, upD_ok L, by rw [hul]; omega⟩, by rw [hul]; omega, Lib.hid (by rw [← merkD_up L (by omega)]; exact HME.out), Lib.hid hd2⟩, ?_⟩
          show (upD L).length < L.length
          rw [hul]; omega
        case stop =>
          rintro D c pre W _ _ h _
          exact h.elim
      · obtain ⟨g, off, e0, hg, hrow⟩ := HRL.out.at (i := 0) (by omega)
        subst e0
        have hms := merkD_small L (by omega)
        have hhd : L.headD zeroH = L.getD 0 [] := by cases L with | nil => simp at hL0 | cons x r => rfl
        rw [HME.out, hhd] at hms
        rw [Nat.zero_mul, Nat.add_zero, ← hms] at hrow
        have HROW := Lib.hid hrow
        clear hrow hms hhd
        go_wp2_with (first | ((with_reducible refine gate_load 24 (.tmp 36) ?_); refine wpList_load_at rfl 24 (.tmp 36) rfl g off rfl _ _ HROW.out Tryd.underlying24 rfl Z32.out ?_) | ((with_reducible refine gate_store 24 (.tmp 2) (.tmp 37) ?_); refine wpList_store_row rfl 24 (.tmp 2) (.tmp 37) rfl p 0 rfl z32 (MD.map (Value.int .u8)) rfl (HR.out.keeps HKR.out) (by rw [List.length_map, HML.out]; rfl) Z32.out (int_oneCell _) ?_; intro W9 hr9 hc9; have HR9 := Lib.hid hr9; have HC9 := Lib.hid hc9; clear hr9 hc9))
        have hk9 : Keeps w W9 := keeps_chg (HK.out.trans HKR.out) HC9.out (by have := HP.out; omega)
        have hm9 : Marks W1.heap.size W9 ds := HDS.out.keep (fun d hd D e h2 => by
          rw [HC9.out.block D (Array.getElem?_eq_some_iff.1 h2).1 (fun e2 => by
            obtain ⟨D2, e3, h3, _⟩ := HDS.out.mem d hd
            rw [e3] at e
            cases e
            have := HR.out.lt (by simp [z32])
            omega)]
          exact h2)
        simp only [Act.put, List.setIfInBounds_toArray, List.set_cons_zero, List.set_cons_succ]
        refine marks_leave HK.out.size ds W9 hm9 hk9 HR9.out (fun W' hk hr => ?_)
        exact ⟨_, results_cell_at (p := 2) (ty := 24) rfl _ _ p 0 _ _ rfl hr Tryd.underlying24 rfl Z32.out, rfl, hk⟩
end Go.Proofs.YtclhjlkgmeofcaaDoor
