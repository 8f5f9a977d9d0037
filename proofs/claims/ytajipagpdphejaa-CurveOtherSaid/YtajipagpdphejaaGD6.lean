/- The reference's Lift and G on numbers; Unpack. No condition. -/
import Derived.Test.YtajipagpdphejaaGD4
import Derived.Test.YtajipagpdphejaaGD5
namespace Go.Proofs.Ytajipagpdphejaa
set_option linter.unusedVariables false
set_option linter.unusedSimpArgs false
open Go Go.RowKit Cv

def liftCR (x o : Nat) : List Int := match liftN x o with
  | some y => ptR ⟨x, y, 1⟩
  | none => zeroL24
theorem rpneg_any (y : Nat) (hy : y < PVn) (w : World) :
    Calls Try.prog 26 #[.agg #[.int .u32 0, .int .u32 0, .int .u32 0, .int .u32 0, .int .u32 0, .int .u32 0, .int .u32 0, .int .u32 0], .agg ((nw8 y).map (Value.int .u32)).toArray, .agg ((nw8 PVn).map (Value.int .u32)).toArray] w fun e w' => e = .returned (.agg ((nw8 ((PVn - y) % PVn)).map (Value.int .u32)).toArray) ∧ Keeps w w' := by
  have := rpsub_any 0 y (by decide) hy w
  rw [show ((nw8 0).map (Value.int .u32)).toArray = #[.int .u32 0, .int .u32 0, .int .u32 0, .int .u32 0, .int .u32 0, .int .u32 0, .int .u32 0, .int .u32 0] by simp [nw8, words8, List.range_succ]] at this
  have e : fs 0 y = (PVn - y) % PVn := by unfold fs; rw [Nat.mod_eq_of_lt hy, Nat.zero_add]
  rwa [e] at this
theorem rppow_any (x e : Nat) (hx : x < PVn) (he : e < 2 ^ 256) (w : World) :
    Calls Try.prog 67 #[.agg ((nw8 x).map (Value.int .u32)).toArray, .agg ((nw8 e).map (Value.int .u32)).toArray, .agg ((nw8 PVn).map (Value.int .u32)).toArray] w fun e' w' => e' = .returned (.agg ((nw8 (fpow x e)).map (Value.int .u32)).toArray) ∧ Keeps w w' := by
  have := rpow_any PVn rmod_pn x e (Nat.lt_trans hx (by decide)) he w
  rwa [← fpow_eq he] at this
theorem built_rseven : Try.prog.built 37 [(0, .int .u32 7)] = some ((nw8 7).map (Value.int .u32)).toArray := by kernel_rfl
theorem rlift_any (x o : Nat) (hx : x < PVn) (ho : o < 2) (w : World) :
    Calls Try.prog 39 #[.agg ((nw8 x).map (Value.int .u32)).toArray, .bool (o == 1)] w fun e w' => e = .returned (.tuple #[.agg ((liftCR x o).map (Value.int .u32)).toArray, .bool (liftN x o).isSome]) ∧ Keeps w w' := by
  have hS : sqN x < PVn := fa_lt _ _
  have hY : fpow (sqN x) QVn < PVn := fpow_lt _ _ q_lt
  have h1 := fun W => rpmul_any x x hx hx W
  have h2 := fun W => rpmul_any (fm x x) x (fm_lt _ _) hx W
  have h3 : ∀ W, Calls Try.prog 56 #[.agg ((nw8 (fm (fm x x) x)).map (Value.int .u32)).toArray, .agg ((nw8 7).map (Value.int .u32)).toArray, .agg ((nw8 PVn).map (Value.int .u32)).toArray] W fun e w' => e = .returned (.agg ((nw8 (sqN x)).map (Value.int .u32)).toArray) ∧ Keeps W w' := fun W => rpadd_any _ 7 (fm_lt _ _) (by decide) W
  have h7 := fun W => rppow_any (sqN x) QVn hS q_lt W
  have h8 := fun W => rpmul_any _ _ hY hY W
  have hE := rnum_equal ((fm (fpow (sqN x) QVn) (fpow (sqN x) QVn) : Nat) : Int) ((sqN x : Nat) : Int) (nat_u256 (fm_lt _ _)) (nat_u256 hS)
  have hng := fun W => rpneg_any _ hY W
  have hlift : liftN x o = if fm (fpow (sqN x) QVn) (fpow (sqN x) QVn) = sqN x then some (if fpow (sqN x) QVn % 2 = o then fpow (sqN x) QVn else (PVn - fpow (sqN x) QVn) % PVn) else none := rfl
  have hpar := nw8_par (fpow (sqN x) QVn)
  refine rlift_walk (nw8 x) (nw8 (fm x x)) (nw8 (fm (fm x x) x)) (nw8 (sqN x)) (nw8 7) (nw8 PVn) (nw8 QVn) (nw8 (fpow (sqN x) QVn)) (nw8 (fm (fpow (sqN x) QVn) (fpow (sqN x) QVn))) (nw8 1) (nw8 ((PVn - fpow (sqN x) QVn) % PVn)) (liftCR x o) (o == 1) _ (nw8_len _) (nw8_len _) (nw8_len _) (nw8_len _) (nw8_len _) (nw8_len _) (nw8_len _) (by rw [pv_eq]; rfl) (by rw [show (PV + 1) / 2 / 2 = ((QVn : Nat) : Int) by decide]; rfl) (words8_range _ 0 (by decide)) w built_rseven built_rone (fun W => rpn_any W) h1 h2 h3 h7 h8 hng _ hE ?_
  generalize fpow (sqN x) QVn = y at *
  have hdec : decide (((fm y y : Nat) : Int) = ((sqN x : Nat) : Int)) = decide (fm y y = sqN x) := by
    by_cases e : fm y y = sqN x
    · rw [e]; simp
    · rw [decide_eq_false e, decide_eq_false (fun h => e (by exact_mod_cast h))]
  rw [hdec, hpar]
  by_cases hsq : fm y y = sqN x
  · rw [if_pos hsq] at hlift
    rw [decide_eq_true hsq]
    have h2' : y % 2 < 2 := Nat.mod_lt _ (by decide)
    by_cases hp : y % 2 = o
    · rw [if_pos hp] at hlift
      have hc : liftCR x o = ptR ⟨x, y, 1⟩ := by unfold liftCR; rw [hlift]
      refine .inr (.inl ⟨rfl, ?_, hc, by rw [hlift]; rfl⟩)
      rw [hp]
      have : o = 0 ∨ o = 1 := by omega
      rcases this with rfl | rfl <;> rfl
    · rw [if_neg hp] at hlift
      have hc : liftCR x o = ptR ⟨x, (PVn - y) % PVn, 1⟩ := by unfold liftCR; rw [hlift]
      refine .inr (.inr ⟨rfl, ?_, hc, by rw [hlift]; rfl⟩)
      generalize y % 2 = z at *
      have : (o = 0 ∧ z = 1) ∨ (o = 1 ∧ z = 0) := by omega
      rcases this with ⟨rfl, rfl⟩ | ⟨rfl, rfl⟩ <;> rfl
  · rw [if_neg hsq] at hlift
    rw [decide_eq_false hsq]
    have hc : liftCR x o = zeroL24 := by unfold liftCR; rw [hlift]
    exact .inl ⟨rfl, hc, by rw [hlift]; rfl⟩
theorem built_rgx : Try.prog.built 37 [(0, .int .u32 385357720), (1, .int .u32 1509065051), (2, .int .u32 768485593), (3, .int .u32 43777243), (4, .int .u32 3464956679), (5, .int .u32 1436574357), (6, .int .u32 4191992748), (7, .int .u32 2042521214)] = some ((nw8 gxN).map (Value.int .u32)).toArray := by kernel_rfl
set_option maxRecDepth 100000 in
set_option maxHeartbeats 2000000 in
theorem rG_walk (GX PT : List Int) (lPT : PT.length = 24) (w : World) (hB : Try.prog.built 37 [(0, .int .u32 385357720), (1, .int .u32 1509065051), (2, .int .u32 768485593), (3, .int .u32 43777243), (4, .int .u32 3464956679), (5, .int .u32 1436574357), (6, .int .u32 4191992748), (7, .int .u32 2042521214)] = some (GX.map (Value.int .u32)).toArray)
    (hL : ∀ W, Calls Try.prog 39 #[.agg (GX.map (Value.int .u32)).toArray, .bool false] W fun e w' => e = .returned (.tuple #[.agg (PT.map (Value.int .u32)).toArray, .bool true]) ∧ Keeps W w') :
    Calls Try.prog 36 #[] w fun e w' => e = .returned (.agg (PT.map (Value.int .u32)).toArray) ∧ Keeps w w' := by
  have HB := Lib.hid hB; have HL := Lib.hid hL; clear hB hL
  go_enter Try.func36, Try.ntmps36
  go_upto_region 1 with (fail)
  refine cu_rows1 (fun W hk hra hs => ?_)
  obtain ⟨p, hp⟩ : ∃ p, p = w.heap.size := ⟨_, rfl⟩
  rw [← hp] at hra hs ⊢
  have hkp : w.heap.size ≤ p := by omega
  obtain ⟨Zr, hZr, hrz⟩ : ∃ Zr : List Value, Zr.length = 24 ∧ Row W p 0 Zr := ⟨_, rfl, hra⟩
  have HKW := Lib.hid hk; have HRres := Lib.hid hrz
  clear hp hra hrz hk hs
  go_upto_region 2 with (first | (refine cu_build (by kernel_rfl) 37 _ rfl _ ?_ _ HB.out ?_; focus (simp only [List.map_toArray, List.map_cons, List.map_nil]; rfl)) | (go_at_call 39; refine (HL.out _).mono ?_; rintro e V1 ⟨rfl, hk1⟩; have HV1 := Lib.hid hk1; clear hk1) | (refine wpList_store_row rfl 39 (.tmp 1) (.tmp 6) rfl V1.heap.size 0 rfl (zeroL24.map (Value.int .u32)) (PT.map (Value.int .u32)) rfl (Row.new _ _ _ rfl) (by rw [List.length_map, lPT]; rfl) (by rw [List.length_map, lPT]; exact sz_rpt) (int_oneCell _) ?_; intro W2 hr2 hc2; have HN := Lib.hid hr2; have HK2 := Lib.hid (nm_keeps_chg (nm_keeps_alloc HV1.out _) hc2 HV1.out.size); clear hr2 hc2))
  have HRres := Lib.hid (HRres.out.keeps HK2.out)
  have HKW := Lib.hid (HKW.out.trans HK2.out)
  go_wp2_with (first | (refine wpList_load_at rfl 39 (.tmp 1) rfl _ 0 rfl (PT.map (Value.int .u32)) _ HN.out Try.underlying39 rfl (by rw [List.length_map, lPT]; exact sz_rpt) ?_) | (refine wpList_store_row rfl 39 (.tmp 0) (.tmp 8) rfl _ 0 rfl Zr (PT.map (Value.int .u32)) rfl HRres.out (by rw [List.length_map, lPT, hZr]) (by rw [List.length_map, lPT]; exact sz_rpt) (int_oneCell _) ?_; intro W3 hr2 hc2; have HN3 := Lib.hid hr2; have HC := Lib.hid hc2; clear hr2 hc2))
  exact bodyPost_ret (results_cell_at (p := 0) (ty := 39) rfl _ _ p 0 _ _ rfl HN3.out Try.underlying39 rfl (by rw [List.length_map, lPT]; exact sz_rpt)) rfl ⟨rfl, nm_keeps_chg HKW.out HC.out (by omega)⟩
theorem rG_any (w : World) : Calls Try.prog 36 #[] w fun e w' => e = .returned (.agg ((ptR gJ).map (Value.int .u32)).toArray) ∧ Keeps w w' :=
  rG_walk (nw8 gxN) (ptR gJ) (ptR_len _) w built_rgx (fun W => by
    have := rlift_any gxN 0 (by decide) (by decide) W
    have hc : liftCR gxN 0 = ptR gJ := by unfold liftCR; rw [g_lift]; rfl
    rw [hc, g_lift] at this
    exact this)
set_option maxRecDepth 100000 in
set_option maxHeartbeats 4000000 in
theorem runplen_walk (sa : Option Addr) (n cap : Nat) (hn : ¬ n = 33) (hn2 : (n : Int) < 9223372036854775808) (w : World) :
    Calls Try.prog 15 #[.slice sa n cap] w fun e w' => e = .returned (.tuple #[.agg (zeroL24.map (Value.int .u32)).toArray, .bool false]) ∧ Keeps w w' := by
  have z1 : ((n : Int) != 33) = true := by rw [bne_iff_ne]; omega
  go_enter Try.func15, Try.ntmps15
  go_upto_region 1 with (fail)
  refine cu_rows1 (fun W hk hra hs => ?_)
  obtain ⟨p, hp⟩ : ∃ p, p = w.heap.size := ⟨_, rfl⟩
  rw [← hp] at hra hs ⊢
  have hkp : w.heap.size ≤ p := by omega
  obtain ⟨Zr, hZr, hrz⟩ : ∃ Zr : List Value, Zr.length = 24 ∧ Row W p 0 Zr := ⟨_, rfl, hra⟩
  have HKW := Lib.hid hk; have HRres := Lib.hid hrz
  clear hp hra hrz hk hs
  go_wp2_with (refine wpList_store_row rfl 39 (.tmp 2) (.tmp 27) rfl _ 0 rfl Zr (zeroL24.map (Value.int .u32)) rfl HRres.out (by rw [hZr]; rfl) sz_rpt (int_oneCell _) ?_; intro W2 hr2 hc2; have HN := Lib.hid hr2; have HC := Lib.hid hc2; clear hr2 hc2)
  exact bodyPost_ret (results_cell_tmpB (p := 2) (t := 3) (ty := 39) rfl _ _ p 0 _ _ _ rfl rfl HN.out Try.underlying39 rfl sz_rpt) rfl ⟨rfl, nm_keeps_chg HKW.out HC.out (by omega)⟩
set_option maxRecDepth 100000 in
set_option maxHeartbeats 4000000 in
theorem runpb0_walk (g off cap : Nat) (l : List Int) (hl : l.length = 33) (hbad : ¬ l.getD 0 0 = 2 ∧ ¬ l.getD 0 0 = 3) (w : World) (hg : Row w g off (l.map (Value.int .u8))) :
    Calls Try.prog 15 #[.slice (some ⟨g, off, none⟩) 33 cap] w fun e w' => e = .returned (.tuple #[.agg (zeroL24.map (Value.int .u32)).toArray, .bool false]) ∧ Keeps w w' := by
  have HG := Lib.hid hg
  have hl0 : 0 < l.length := by omega
  clear hg
  go_enter Try.func15, Try.ntmps15
  go_upto_region 1 with (fail)
  refine cu_rows1 (fun W hk hra hs => ?_)
  obtain ⟨p, hp⟩ : ∃ p, p = w.heap.size := ⟨_, rfl⟩
  rw [← hp] at hra hs ⊢
  have hkp : w.heap.size ≤ p := by omega
  obtain ⟨Zr, hZr, hrz⟩ : ∃ Zr : List Value, Zr.length = 24 ∧ Row W p 0 Zr := ⟨_, rfl, hra⟩
  have HKW := Lib.hid hk; have HRres := Lib.hid hrz
  have c0 := (HG.out.keeps hk).int 0 hl0
  rw [Nat.add_zero] at c0
  clear hp hra hrz hk hs HG hl0 hl
  generalize l.getD 0 0 = b0 at *
  have z1 : (b0 != 2) = true := by rw [bne_iff_ne]; exact hbad.1
  have z2 : (b0 != 3) = true := by rw [bne_iff_ne]; exact hbad.2
  clear hbad
  go_wp2_with (refine wpList_store_row rfl 39 (.tmp 2) (.tmp 27) rfl _ 0 rfl Zr (zeroL24.map (Value.int .u32)) rfl HRres.out (by rw [hZr]; rfl) sz_rpt (int_oneCell _) ?_; intro W2 hr2 hc2; have HN := Lib.hid hr2; have HC := Lib.hid hc2; clear hr2 hc2)
  exact bodyPost_ret (results_cell_tmpB (p := 2) (t := 3) (ty := 39) rfl _ _ p 0 _ _ _ rfl rfl HN.out Try.underlying39 rfl sz_rpt) rfl ⟨rfl, nm_keeps_chg HKW.out HC.out (by omega)⟩
set_option maxRecDepth 100000 in
set_option maxHeartbeats 8000000 in
theorem runpx_walk (g off cap : Nat) (l XL M : List Int) (hl : l.length = 33) (hok : l.getD 0 0 = 2 ∨ l.getD 0 0 = 3) (w : World) (hg : Row w g off (l.map (Value.int .u8))) (hcap : 33 ≤ cap) (hcap2 : cap < 9223372036854775808) (d : Bool) (RT : List Int) (lRT : RT.length = 24) (lt : Bool)
    (hN : ∀ v W, Rd W 1 v 32 ((l.drop 1).map (Value.int .u8)) → Calls Try.prog 24 #[v] W fun e w' => e = .returned (.agg (XL.map (Value.int .u32)).toArray) ∧ Keeps W w')
    (hP : ∀ W, Calls Try.prog 38 #[] W fun e w' => e = .returned (.agg (M.map (Value.int .u32)).toArray) ∧ Keeps W w')
    (hB : ∀ W, Calls Try.prog 25 #[.agg (XL.map (Value.int .u32)).toArray, .agg (M.map (Value.int .u32)).toArray] W fun e w' => e = .returned (.bool lt) ∧ Keeps W w')
    (hcase : (lt = false ∧ RT = zeroL24 ∧ d = false) ∨ (lt = true ∧ ∀ W, Calls Try.prog 39 #[.agg (XL.map (Value.int .u32)).toArray, .bool (l.getD 0 0 == 3)] W fun e w' => e = .returned (.tuple #[.agg (RT.map (Value.int .u32)).toArray, .bool d]) ∧ Keeps W w')) :
    Calls Try.prog 15 #[.slice (some ⟨g, off, none⟩) 33 cap] w fun e w' => e = .returned (.tuple #[.agg (RT.map (Value.int .u32)).toArray, .bool d]) ∧ Keeps w w' := by
  have HNM := Lib.hid hN; have HBL := Lib.hid hB; have HP := Lib.hid hP; clear hN hB hP
  have HG := Lib.hid hg
  have hl0 : 0 < l.length := by omega
  have hgl : g < w.heap.size := hg.lt (by intro e; have := congrArg List.length e; rw [List.length_map, hl] at this; cases this)
  have HL := Lib.hid hl
  have HCASE := Lib.hid hcase
  clear hg hl hcase
  go_enter Try.func15, Try.ntmps15
  go_upto_region 1 with (fail)
  refine cu_rows1 (fun W hk hra hs => ?_)
  obtain ⟨p, hp⟩ : ∃ p, p = w.heap.size := ⟨_, rfl⟩
  rw [← hp] at hra hs hgl ⊢
  have hkp : w.heap.size ≤ p := by omega
  obtain ⟨Zr, hZr, hrz⟩ : ∃ Zr : List Value, Zr.length = 24 ∧ Row W p 0 Zr := ⟨_, rfl, hra⟩
  have HKW := Lib.hid hk; have HRres := Lib.hid hrz
  have HC0 := Lib.hid (fun W' (hk' : Keeps w W') => (HG.out.keeps hk').int 0 hl0)
  have c0 := HC0.out W hk
  rw [Nat.add_zero] at c0
  have HR1 := Lib.hid (show Row W g (off + 1) ((l.drop 1).map (Value.int .u8)) by have := (HG.out.keeps hk).drop 1; rwa [← List.map_drop] at this)
  have HL1 := Lib.hid (show (l.drop 1).length = 32 by rw [List.length_drop, HL.out])
  have hgW : g < W.heap.size := by omega
  clear hp hra hrz hk hs hl0 HL HG
  generalize l.getD 0 0 = b0 at *
  generalize l.drop 1 = LD at *
  rcases HCASE.out with ⟨rfl, rfl, rfl⟩ | ⟨rfl, hLf⟩
  · clear HCASE
    rcases hok with rfl | rfl
    all_goals
      go_upto_region 2 with (first | (go_at_call 24; refine (HNM.out _ _ (Rd.of_row HR1.out (by simp [HL1.out]) hgW (by omega) (by unfold maxLen; omega))).mono ?_; rintro e V1 ⟨rfl, hk1⟩; have HV1 := Lib.hid hk1; clear hk1) | (go_at_call 38; refine (HP.out _).mono ?_; rintro e V2 ⟨rfl, hk1⟩; have HV2 := Lib.hid hk1; clear hk1) | (go_at_call 25; refine (HBL.out _).mono ?_; rintro e V3 ⟨rfl, hk1⟩; have HV3 := Lib.hid hk1; clear hk1))
      have HRres := Lib.hid (((HRres.out.keeps HV1.out).keeps HV2.out).keeps HV3.out)
      have HKW := Lib.hid (((HKW.out.trans HV1.out).trans HV2.out).trans HV3.out)
      go_wp2_with (refine wpList_store_row rfl 39 (.tmp 2) (.tmp 27) rfl _ 0 rfl Zr (zeroL24.map (Value.int .u32)) rfl HRres.out (by rw [hZr]; rfl) sz_rpt (int_oneCell _) ?_; intro W2 hr2 hc2; have HN := Lib.hid hr2; have HC := Lib.hid hc2; clear hr2 hc2)
      exact bodyPost_ret (results_cell_tmpB (p := 2) (t := 3) (ty := 39) rfl _ _ p 0 _ _ _ rfl rfl HN.out Try.underlying39 rfl sz_rpt) rfl ⟨rfl, nm_keeps_chg HKW.out HC.out (by omega)⟩
  · have HLF := Lib.hid hLf
    clear HCASE hLf
    have HBE := Lib.hid (show ∃ bb, bb = (b0 == 3) from ⟨_, rfl⟩)
    rcases hok with rfl | rfl
    all_goals
      go_upto_region 3 with (first | (go_at_call 24; refine (HNM.out _ _ (Rd.of_row HR1.out (by simp [HL1.out]) hgW (by omega) (by unfold maxLen; omega))).mono ?_; rintro e V1 ⟨rfl, hk1⟩; have HV1 := Lib.hid hk1; clear hk1) | (go_at_call 38; refine (HP.out _).mono ?_; rintro e V2 ⟨rfl, hk1⟩; have HV2 := Lib.hid hk1; clear hk1) | (go_at_call 25; refine (HBL.out _).mono ?_; rintro e V3 ⟨rfl, hk1⟩; have HV3 := Lib.hid hk1; clear hk1))
      have HRres := Lib.hid (((HRres.out.keeps HV1.out).keeps HV2.out).keeps HV3.out)
      have HKW := Lib.hid (((HKW.out.trans HV1.out).trans HV2.out).trans HV3.out)
      have HR1 := Lib.hid (((HR1.out.keeps HV1.out).keeps HV2.out).keeps HV3.out)
      have hgW : g < V3.heap.size := Nat.lt_of_lt_of_le hgW (Nat.le_trans HV1.out.size (Nat.le_trans HV2.out.size HV3.out.size))
      have hcap1 : ¬ cap = 1 := by omega
      have HRD := Lib.hid (fun W' (hk : Keeps V3 W') => show Rd W' 1 (.slice (some ⟨g, off + 1, none⟩) 32 (cap - 1)) 32 (LD.map (Value.int .u8)) from Rd.of_row (HR1.out.keeps hk) (by simp [HL1.out]) (Nat.lt_of_lt_of_le hgW hk.size) (by omega) (by unfold maxLen; omega))
      refine wp_region_keep 10 [] [0, 1, 2, 3, 4, 5, 6, 7, 8, 9] (fun _ => []) (by kernel_rfl) (by kernel_rfl) (by intro i hi; cases hi) ?_
      refine keep_pure (o := ?_) (v := ?_) ?_ ?_ ?_ ?_
      rotate_left 2
      focus (simp only [kG]; exact rfl)
      focus rfl
      focus ((intro wS hS; go_simp) <;> with_reducible rfl)
      try simp only [kP]
      refine keep_pure (o := ?_) (v := ?_) ?_ ?_ ?_ ?_
      rotate_left 2
      focus (simp only [kG]; exact rfl)
      focus rfl
      focus ((intro wS hS; go_simp) <;> with_reducible rfl)
      try simp only [kP]
      refine keep_call (o := ?_) (f := ?_) (args := ?_) (v := ?_) ?_ ?_ ?_ ?_ ?_
      rotate_left 4
      focus (simp only [kG]; exact rfl)
      focus rfl
      focus (intro wS; go_simp; refine ⟨?_, ?_⟩ <;> with_reducible rfl)
      focus (intro wS hS; exact HNM.out _ wS (HRD.out wS hS))
      try simp only [kP]
      refine keep_pure (o := ?_) (v := ?_) ?_ ?_ ?_ ?_
      rotate_left 2
      focus (simp only [kG]; exact rfl)
      focus rfl
      focus ((intro wS hS; go_simp) <;> with_reducible rfl)
      try simp only [kP]
      refine keep_pure (o := ?_) (v := ?_) ?_ ?_ ?_ ?_
      rotate_left 2
      focus (simp only [kG]; exact rfl)
      focus rfl
      focus ((intro wS hS; go_simp) <;> with_reducible rfl)
      try simp only [kP]
      refine keep_pure (o := ?_) (v := ?_) ?_ ?_ ?_ ?_
      rotate_left 2
      focus (simp only [kG]; exact rfl)
      focus rfl
      focus ((intro wS hS; have c9 := HC0.out wS (HKW.out.trans hS); rw [Nat.add_zero] at c9; go_simp) <;> with_reducible rfl)
      try simp only [kP]
      refine keep_pure (o := ?_) (v := ?_) ?_ ?_ ?_ ?_
      rotate_left 2
      focus (simp only [kG]; exact rfl)
      focus rfl
      focus ((intro wS hS; go_simp) <;> with_reducible rfl)
      try simp only [kP]
      refine keep_call (o := ?_) (f := ?_) (args := ?_) (v := ?_) ?_ ?_ ?_ ?_ ?_
      rotate_left 4
      focus (simp only [kG]; exact rfl)
      focus rfl
      focus (intro wS; go_simp; refine ⟨?_, ?_⟩ <;> with_reducible rfl)
      focus (intro wS hS; exact HLF.out wS)
      try simp only [kP]
      refine keep_pure (o := ?_) (v := ?_) ?_ ?_ ?_ ?_
      rotate_left 2
      focus (simp only [kG]; exact rfl)
      focus rfl
      focus ((intro wS hS; go_simp) <;> with_reducible rfl)
      try simp only [kP]
      refine keep_pure (o := ?_) (v := ?_) ?_ ?_ ?_ ?_
      rotate_left 2
      focus (simp only [kG]; exact rfl)
      focus rfl
      focus ((intro wS hS; go_simp) <;> with_reducible rfl)
      try simp only [kP]
      refine keep_nil ?_
      intro GG V4 hk1 hG
      clear hG
      simp only [putsA, dstAt, Act.put, ptrV, List.drop_succ_cons, List.drop_zero, List.getElem?_toArray, List.getElem?_cons_succ, List.getElem?_cons_zero, Option.bind_some, List.setIfInBounds_toArray, List.set_cons_zero, List.set_cons_succ]
      have HRres := Lib.hid (HRres.out.keeps hk1)
      have HKW := Lib.hid (HKW.out.trans hk1)
      clear hk1
      go_wp2_with (refine wpList_store_row rfl 39 (.tmp 2) (.tmp 36) rfl _ 0 rfl Zr (RT.map (Value.int .u32)) rfl HRres.out (by rw [List.length_map, lRT, hZr]) (by rw [List.length_map, lRT]; exact sz_rpt) (int_oneCell _) ?_; intro W2 hr2 hc2; have HN := Lib.hid hr2; have HC := Lib.hid hc2; clear hr2 hc2)
      exact bodyPost_ret (results_cell_tmpB (p := 2) (t := 3) (ty := 39) rfl _ _ p 0 _ _ _ rfl rfl HN.out Try.underlying39 rfl (by rw [List.length_map, lRT]; exact sz_rpt)) rfl ⟨rfl, nm_keeps_chg HKW.out HC.out (by omega)⟩
def unpCR (l : List Int) : List Int := match unpN l with
  | some a => ptR a
  | none => zeroL24
theorem unpCR_len (l : List Int) : (unpCR l).length = 24 := by unfold unpCR; split <;> first | exact ptR_len _ | rfl
theorem runpack_any (v : Value) (l : List Int) (hb : Bytes l) (w : World) (hv : Rd w 1 v l.length (l.map (Value.int .u8))) :
    Calls Try.prog 15 #[v] w fun e w' => e = .returned (.tuple #[.agg ((unpCR l).map (Value.int .u32)).toArray, .bool (unpN l).isSome]) ∧ Keeps w w' := by
  obtain ⟨_, sa, cap, rfl, h2, h3, h4, h5⟩ := hv
  have hsz : cap < 9223372036854775808 := by unfold maxLen at h3; omega
  by_cases hl : l.length = 33
  · cases sa with
    | none => have := (h4 rfl).1; omega
    | some ad =>
      obtain ⟨g2, off, rfl, hg2, hrow⟩ := h5 ad rfl (by omega)
      rw [hl] at h2 ⊢
      have hx := be_range (l := l.drop 1) (fun x h => hb x (List.mem_of_mem_drop h))
      have hx2 := be_u256 (l := l.drop 1) (fun x h => hb x (List.mem_of_mem_drop h)) (by rw [List.length_drop, hl])
      have hb0 := hb.getD 0
      by_cases hok : l.getD 0 0 - l.getD 0 0 % 2 = 2
      · have hok' : l.getD 0 0 = 2 ∨ l.getD 0 0 = 3 := by omega
        have hN := fun v W hr => rof_any v (l.drop 1) W hr (fun x h => hb x (List.mem_of_mem_drop h)) (by rw [List.length_drop, hl])
        have hB := fun W => rless8_any (be (l.drop 1)) PV hx2 PV_u256 W
        refine runpx_walk g2 off cap l (words8 (be (l.drop 1))) (words8 PV) hl hok' w hrow h2 hsz _ _ (unpCR_len l) _ hN (fun W => rp_any W) hB ?_
        by_cases hp : be (l.drop 1) < PV
        · have he : unpN l = (liftN (be (l.drop 1)).toNat (l.getD 0 0 % 2).toNat).map (fun y => ⟨(be (l.drop 1)).toNat, y, 1⟩) := by unfold unpN; rw [if_pos ⟨hl, hok, hp⟩]
          have hc : unpCR l = liftCR (be (l.drop 1)).toNat (l.getD 0 0 % 2).toNat := by
            unfold unpCR liftCR
            rw [he]
            cases liftN (be (l.drop 1)).toNat (l.getD 0 0 % 2).toNat <;> rfl
          have hd : (unpN l).isSome = (liftN (be (l.drop 1)).toNat (l.getD 0 0 % 2).toNat).isSome := by rw [he]; simp
          rw [hc, hd, decide_eq_true hp]
          have hxn : words8 (be (l.drop 1)) = nw8 (be (l.drop 1)).toNat := by unfold nw8; rw [Int.toNat_of_nonneg hx.1]
          have ho : (l.getD 0 0 == 3) = ((l.getD 0 0 % 2).toNat == 1) := by rcases hok' with h | h <;> rw [h] <;> rfl
          rw [hxn, ho]
          exact .inr ⟨rfl, fun W => rlift_any _ _ (by rw [pv_eq] at hp; omega) (by omega) W⟩
        · have he : unpN l = none := by unfold unpN; rw [if_neg (fun h => hp h.2.2)]
          have hc : unpCR l = zeroL24 := by unfold unpCR; rw [he]
          rw [hc, he, decide_eq_false hp]
          exact .inl ⟨rfl, rfl, rfl⟩
      · have he : unpN l = none := by unfold unpN; rw [if_neg (fun h => hok h.2.1)]
        have hc : unpCR l = zeroL24 := by unfold unpCR; rw [he]
        rw [hc, he]
        exact runpb0_walk g2 off cap l hl (by omega) w hrow
  · have he : unpN l = none := by unfold unpN; rw [if_neg (fun h => hl h.1)]
    have hc : unpCR l = zeroL24 := by unfold unpCR; rw [he]
    rw [hc, he]
    exact runplen_walk sa l.length cap hl (by omega) w
end Go.Proofs.Ytajipagpdphejaa
