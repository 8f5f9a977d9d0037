/- The reference's Lift. No condition. -/
import Derived.Test.YtajipagpdphejaaGD3
import Derived.Test.YtajipagpdphejaaGB5
namespace Go.Proofs.Ytajipagpdphejaa
set_option linter.unusedVariables false
set_option linter.unusedSimpArgs false
open Go Go.RowKit Cv

/-- one added, word by word -/
structure IncSt (C : Int) (k : Nat) (L : List Int) (c : Int) : Prop where
  len : L.length = 8
  dg : Digs 4294967296 L
  cc : c = 0 ∨ c = 1
  val : val 4294967296 L + c * 4294967296 ^ k = C
theorem IncSt.step {C : Int} {k : Nat} {L : List Int} {c c' t' : Int} (h : IncSt C k L c) (hk : k < 8) (h0 : 0 ≤ t') (h1 : t' < 4294967296) (h2 : c' = 0 ∨ c' = 1)
    (e : t' + 4294967296 * c' = L.getD k 0 + c) : IncSt C (k + 1) (L.set k t') c' :=
  ⟨by rw [List.length_set]; exact h.len, h.dg.set _ h0 h1, h2, carry_step' (by rw [h.len]; omega) h.val e⟩
theorem IncSt.done {C : Int} {L : List Int} {c : Int} (h : IncSt C 8 L c) (hC : C < 115792089237316195423570985008687907853269984665640564039457584007913129639936) : L = words8 C := by
  have h0 : c = 0 := carry_none (B := 4294967296) (by decide) h.dg (by have := h.cc; omega) h.val (by rw [B32_eight]; exact hC)
  have hv := h.val
  rw [h0, Int.zero_mul, Int.add_zero] at hv
  rw [← hv]
  exact words8_val h.dg h.len
theorem half8_step {x : Int} (h : U256 x) (i : Nat) (hi : i < 8) : (words8 x).getD i 0 / 2 + (if i < 7 then (words8 x).getD (i + 1) 0 % 2 else 0) * 2147483648 = (words8 (x / 2)).getD i 0 := by
  have h0 := h.1; have h1 := h.2
  rw [words8_getD _ _ hi, words8_getD _ _ hi]
  have hc : i = 0 ∨ i = 1 ∨ i = 2 ∨ i = 3 ∨ i = 4 ∨ i = 5 ∨ i = 6 ∨ i = 7 := by omega
  rcases hc with rfl | rfl | rfl | rfl | rfl | rfl | rfl | rfl
  all_goals first | rw [if_pos (by decide), words8_getD _ _ (by decide)] | rw [if_neg (by decide)]
  all_goals simp only [Int.reducePow, Nat.reduceAdd, Int.pow_zero, Int.ediv_one]
  all_goals omega
/-- the memory of Lift -/
def LMem (w wr : World) (p g1 g2 g3 : Nat) (X M S E : List Int) (Z : List Value) : Prop := Keeps w wr ∧ Row wr p 0 (X.map (Value.int .u32)) ∧ Row wr (p + 1) 0 Z ∧ Row wr g1 0 (M.map (Value.int .u32)) ∧ Row wr g2 0 (S.map (Value.int .u32)) ∧ Row wr g3 0 (E.map (Value.int .u32)) ∧ p + 1 < g1 ∧ g1 < g2 ∧ g2 < g3 ∧ g3 < wr.heap.size
theorem LMem.keeps {w wr w' : World} {p g1 g2 g3 : Nat} {X M S E : List Int} {Z : List Value} (h : LMem w wr p g1 g2 g3 X M S E Z) (hk : Keeps wr w') : LMem w w' p g1 g2 g3 X M S E Z :=
  ⟨h.1.trans hk, h.2.1.keeps hk, h.2.2.1.keeps hk, h.2.2.2.1.keeps hk, h.2.2.2.2.1.keeps hk, h.2.2.2.2.2.1.keeps hk, h.2.2.2.2.2.2.1, h.2.2.2.2.2.2.2.1, h.2.2.2.2.2.2.2.2.1, Nat.lt_of_lt_of_le h.2.2.2.2.2.2.2.2.2 hk.size⟩
theorem LMem.set {w wr : World} {p g1 g2 g3 : Nat} {X M S E : List Int} {Z : List Value} (h : LMem w wr p g1 g2 g3 X M S E Z) (hp : w.heap.size ≤ p) {i : Nat} (hi : i < E.length) (t : Int) : LMem w (wr.setCell ⟨g3, i, none⟩ (.int .u32 t)) p g1 g2 g3 X M S (E.set i t) Z :=
  have o := h.2.2.2.2.2.2
  ⟨keeps_set h.1 (show w.heap.size ≤ g3 by omega) _, h.2.1.other (show p ≠ g3 by omega) _, h.2.2.1.other (show p + 1 ≠ g3 by omega) _, h.2.2.2.1.other (show g1 ≠ g3 by omega) _, h.2.2.2.2.1.other (show g2 ≠ g3 by omega) _, h.2.2.2.2.2.1.setInt0 i hi t, o.1, o.2.1, o.2.2.1, by simpa using o.2.2.2⟩
theorem LMem.chg {w wr w' : World} {p g1 g2 g3 n : Nat} {X M S E : List Int} {Z : List Value} (h : LMem w wr p g1 g2 g3 X M S E Z) (hc : Chg (· = n) wr w') (hp : w.heap.size ≤ p) (hn : g3 < n) : LMem w w' p g1 g2 g3 X M S E Z :=
  have o := h.2.2.2.2.2.2
  ⟨nm_keeps_chg h.1 hc (by omega), h.2.1.chg hc (by omega), h.2.2.1.chg hc (by omega), h.2.2.2.1.chg hc (by omega), h.2.2.2.2.1.chg hc (by omega), h.2.2.2.2.2.1.chg hc (by omega), o.1, o.2.1, o.2.2.1, Nat.lt_of_lt_of_le o.2.2.2 hc.size⟩
def zeroL24 : List Int := List.replicate 24 0
set_option maxRecDepth 100000 in
set_option maxHeartbeats 8000000 in
theorem rlift_walk (X C1 C2 S SV M RO Y YY ONE NY RT : List Int) (od d : Bool) (lX : X.length = 8) (lS : S.length = 8) (lSV : SV.length = 8) (lM : M.length = 8) (lY : Y.length = 8) (lONE : ONE.length = 8) (lNY : NY.length = 8) (hM8 : M = words8 PV) (hRO : RO = words8 ((PV + 1) / 2 / 2)) (hy0 : 0 ≤ Y.getD 0 0 ∧ Y.getD 0 0 < 4294967296) (w : World)
    (hB7 : Try.prog.built 37 [(0, .int .u32 7)] = some (SV.map (Value.int .u32)).toArray) (hB1 : Try.prog.built 37 [(0, .int .u32 1)] = some (ONE.map (Value.int .u32)).toArray)
    (hP : ∀ W, Calls Try.prog 38 #[] W fun e w' => e = .returned (.agg (M.map (Value.int .u32)).toArray) ∧ Keeps W w')
    (hC1 : ∀ W, Calls Try.prog 49 #[.agg (X.map (Value.int .u32)).toArray, .agg (X.map (Value.int .u32)).toArray, .agg (M.map (Value.int .u32)).toArray] W fun e w' => e = .returned (.agg (C1.map (Value.int .u32)).toArray) ∧ Keeps W w')
    (hC2 : ∀ W, Calls Try.prog 49 #[.agg (C1.map (Value.int .u32)).toArray, .agg (X.map (Value.int .u32)).toArray, .agg (M.map (Value.int .u32)).toArray] W fun e w' => e = .returned (.agg (C2.map (Value.int .u32)).toArray) ∧ Keeps W w')
    (hC3 : ∀ W, Calls Try.prog 56 #[.agg (C2.map (Value.int .u32)).toArray, .agg (SV.map (Value.int .u32)).toArray, .agg (M.map (Value.int .u32)).toArray] W fun e w' => e = .returned (.agg (S.map (Value.int .u32)).toArray) ∧ Keeps W w')
    (hPW : ∀ W, Calls Try.prog 67 #[.agg (S.map (Value.int .u32)).toArray, .agg (RO.map (Value.int .u32)).toArray, .agg (M.map (Value.int .u32)).toArray] W fun e w' => e = .returned (.agg (Y.map (Value.int .u32)).toArray) ∧ Keeps W w')
    (hYY : ∀ W, Calls Try.prog 49 #[.agg (Y.map (Value.int .u32)).toArray, .agg (Y.map (Value.int .u32)).toArray, .agg (M.map (Value.int .u32)).toArray] W fun e w' => e = .returned (.agg (YY.map (Value.int .u32)).toArray) ∧ Keeps W w')
    (hNG : ∀ W, Calls Try.prog 26 #[.agg #[.int .u32 0, .int .u32 0, .int .u32 0, .int .u32 0, .int .u32 0, .int .u32 0, .int .u32 0, .int .u32 0], .agg (Y.map (Value.int .u32)).toArray, .agg (M.map (Value.int .u32)).toArray] W fun e w' => e = .returned (.agg (NY.map (Value.int .u32)).toArray) ∧ Keeps W w')
    (q : Bool) (hE : ∀ W, (Op.equalIn 10000 37 (.agg (YY.map (Value.int .u32)).toArray) (.agg (S.map (Value.int .u32)).toArray)).run Try.prog W = .ok q W)
    (hcase : (q = false ∧ RT = zeroL24 ∧ d = false) ∨ (q = true ∧ (Y.getD 0 0 % 2 == 1) = od ∧ RT = X ++ Y ++ ONE ∧ d = true) ∨ (q = true ∧ (Y.getD 0 0 % 2 == 1) = !od ∧ RT = X ++ NY ++ ONE ∧ d = true)) :
    Calls Try.prog 39 #[.agg (X.map (Value.int .u32)).toArray, .bool od] w fun e w' => e = .returned (.tuple #[.agg (RT.map (Value.int .u32)).toArray, .bool d]) ∧ Keeps w w' := by
  have HB7 := Lib.hid hB7; have HB1 := Lib.hid hB1; have HP := Lib.hid hP; have HC1 := Lib.hid hC1; have HC2 := Lib.hid hC2; have HC3 := Lib.hid hC3; have HPW := Lib.hid hPW; have HYY := Lib.hid hYY; have HNG := Lib.hid hNG; have HE := Lib.hid hE; have HCASE := Lib.hid hcase; have HM8 := Lib.hid hM8; have HRO := Lib.hid hRO
  clear hB7 hB1 hP hC1 hC2 hC3 hPW hYY hNG hE hcase hM8 hRO
  go_enter Try.func39, Try.ntmps39
  go_upto_region 1 with (fail)
  refine cu_rows2 (fun W hk hra hrb hs => ?_)
  obtain ⟨p, hp⟩ : ∃ p, p = w.heap.size := ⟨_, rfl⟩
  rw [← hp] at hra hrb hs ⊢
  have hkp : w.heap.size ≤ p := by omega
  obtain ⟨Zr, hZr, hrz⟩ : ∃ Zr : List Value, Zr.length = 24 ∧ Row W (p + 1) 0 Zr := ⟨_, rfl, hrb⟩
  have HRX := Lib.hid (show Row W p 0 (X.map (Value.int .u32)) from hra)
  have HKW := Lib.hid hk; have HRres := Lib.hid hrz
  have hps : p + 1 < W.heap.size := by omega
  clear hp hra hrb hrz hk hs
  go_upto_region 2 with (first | (go_at_call 38; refine (HP.out _).mono ?_; rintro e V1 ⟨rfl, hk1⟩; have HV1 := Lib.hid hk1; clear hk1) | ((with_reducible refine gate_store 37 (.tmp 6) (.tmp 15) ?_); refine wpList_store_row rfl 37 (.tmp 6) (.tmp 15) rfl V1.heap.size 0 rfl zeros8 (M.map (Value.int .u32)) rfl (Row.new _ _ _ rfl) (by rw [List.length_map, lM]; rfl) (by rw [List.length_map, lM]; exact sz_rnum) (int_oneCell _) ?_; intro W2 hr2 hc2; have HRM := Lib.hid hr2; have HK2 := Lib.hid (nm_keeps_chg (nm_keeps_alloc HV1.out _) hc2 HV1.out.size); clear hr2 hc2))
  have hlt1 : p + 1 < V1.heap.size := Nat.lt_of_lt_of_le hps HV1.out.size
  generalize V1.heap.size = g1 at *
  have hsz1 : g1 < W2.heap.size := HRM.out.lt (map_ne lM)
  have HRX := Lib.hid (HRX.out.keeps HK2.out)
  have HRres := Lib.hid (HRres.out.keeps HK2.out)
  have HKW := Lib.hid (HKW.out.trans HK2.out)
  refine wp_region_keep 11 [10] [0, 1, 2, 3, 4, 5, 6, 7, 8, 9] (fun _ => zeros8) (by kernel_rfl) (by kernel_rfl) (by intro i hi; simp only [List.mem_cons, List.not_mem_nil, or_false] at hi; (first | (rcases hi with rfl | rfl) | subst hi) <;> exact ⟨_, rfl, alloc_rnum rfl rfl⟩) ?_
  refine keep_pure (o := ?_) (v := ?_) ?_ ?_ ?_ ?_
  rotate_left 2
  focus (simp only [kG]; exact rfl)
  focus rfl
  focus (intro wS hS; (refine cu_run_load 37 (.tmp 2) ?_ p 0 ?_ (X.map (Value.int .u32)) _ (HRX.out.keeps hS) Try.underlying37 rfl (by rw [List.length_map, lX]; exact sz_rnum)) <;> rfl)
  try simp only [kP]
  refine keep_pure (o := ?_) (v := ?_) ?_ ?_ ?_ ?_
  rotate_left 2
  focus (simp only [kG]; exact rfl)
  focus rfl
  focus (intro wS hS; (refine cu_run_load 37 (.tmp 2) ?_ p 0 ?_ (X.map (Value.int .u32)) _ (HRX.out.keeps hS) Try.underlying37 rfl (by rw [List.length_map, lX]; exact sz_rnum)) <;> rfl)
  try simp only [kP]
  refine keep_pure (o := ?_) (v := ?_) ?_ ?_ ?_ ?_
  rotate_left 2
  focus (simp only [kG]; exact rfl)
  focus rfl
  focus (intro wS hS; (refine cu_run_load 37 (.tmp 6) ?_ g1 0 ?_ (M.map (Value.int .u32)) _ (HRM.out.keeps hS) Try.underlying37 rfl (by rw [List.length_map, lM]; exact sz_rnum)) <;> rfl)
  try simp only [kP]
  refine keep_call (o := ?_) (f := ?_) (args := ?_) (v := ?_) ?_ ?_ ?_ ?_ ?_
  rotate_left 4
  focus (simp only [kG]; exact rfl)
  focus rfl
  focus (intro wS; go_simp; refine ⟨?_, ?_⟩ <;> with_reducible rfl)
  focus (intro wS hS; exact HC1.out wS)
  try simp only [kP]
  refine keep_pure (o := ?_) (v := ?_) ?_ ?_ ?_ ?_
  rotate_left 2
  focus (simp only [kG]; exact rfl)
  focus rfl
  focus (intro wS hS; (refine cu_run_load 37 (.tmp 2) ?_ p 0 ?_ (X.map (Value.int .u32)) _ (HRX.out.keeps hS) Try.underlying37 rfl (by rw [List.length_map, lX]; exact sz_rnum)) <;> rfl)
  try simp only [kP]
  refine keep_pure (o := ?_) (v := ?_) ?_ ?_ ?_ ?_
  rotate_left 2
  focus (simp only [kG]; exact rfl)
  focus rfl
  focus (intro wS hS; (refine cu_run_load 37 (.tmp 6) ?_ g1 0 ?_ (M.map (Value.int .u32)) _ (HRM.out.keeps hS) Try.underlying37 rfl (by rw [List.length_map, lM]; exact sz_rnum)) <;> rfl)
  try simp only [kP]
  refine keep_call (o := ?_) (f := ?_) (args := ?_) (v := ?_) ?_ ?_ ?_ ?_ ?_
  rotate_left 4
  focus (simp only [kG]; exact rfl)
  focus rfl
  focus (intro wS; go_simp; refine ⟨?_, ?_⟩ <;> with_reducible rfl)
  focus (intro wS hS; exact HC2.out wS)
  try simp only [kP]
  refine keep_pure (o := ?_) (v := ?_) ?_ ?_ ?_ ?_
  rotate_left 2
  focus (simp only [kG]; exact rfl)
  focus rfl
  focus (intro wS hS; (refine cu_run_build 37 [(0, .const (.int .u32 7))] ?_ _ ?_ _ HB7.out) <;> rfl)
  try simp only [kP]
  refine keep_pure (o := ?_) (v := ?_) ?_ ?_ ?_ ?_
  rotate_left 2
  focus (simp only [kG]; exact rfl)
  focus rfl
  focus (intro wS hS; (refine cu_run_load 37 (.tmp 6) ?_ g1 0 ?_ (M.map (Value.int .u32)) _ (HRM.out.keeps hS) Try.underlying37 rfl (by rw [List.length_map, lM]; exact sz_rnum)) <;> rfl)
  try simp only [kP]
  refine keep_call (o := ?_) (f := ?_) (args := ?_) (v := ?_) ?_ ?_ ?_ ?_ ?_
  rotate_left 4
  focus (simp only [kG]; exact rfl)
  focus rfl
  focus (intro wS; go_simp; refine ⟨?_, ?_⟩ <;> with_reducible rfl)
  focus (intro wS hS; exact HC3.out wS)
  try simp only [kP]
  refine keep_nil ?_
  intro GG V1 hk1 hG
  obtain ⟨ha10, hz10, hd10⟩ := hG 10 (by simp)
  clear hd10
  simp only [putsA, dstAt, Act.put, ptrV, List.drop_succ_cons, List.drop_zero, List.getElem?_toArray, List.getElem?_cons_succ, List.getElem?_cons_zero, Option.bind_some, List.setIfInBounds_toArray, List.set_cons_zero, List.set_cons_succ]
  generalize GG 10 = g2 at *
  clear hG
  have HZ10 := Lib.hid hz10
  have hlt2 : g1 < g2 := Nat.lt_of_lt_of_le hsz1 ha10
  have hb10 : W2.heap.size ≤ g2 := ha10
  clear hz10 ha10
  have HV1 := Lib.hid hk1; clear hk1
  go_upto_region 3 with (first | ((with_reducible refine gate_store 37 (.tmp 7) (.tmp 25) ?_); refine wpList_store_row rfl 37 (.tmp 7) (.tmp 25) rfl _ 0 rfl zeros8 (S.map (Value.int .u32)) rfl HZ10.out (by rw [List.length_map, lS]; rfl) (by rw [List.length_map, lS]; exact sz_rnum) (int_oneCell _) ?_; intro W3 hr2 hc2; have HRS := Lib.hid hr2; have HK3 := Lib.hid (nm_keeps_chg HV1.out hc2 hb10); clear hr2 hc2))
  have hsz2 : g2 < W3.heap.size := HRS.out.lt (map_ne lS)
  have HRX := Lib.hid (HRX.out.keeps HK3.out)
  have HRM := Lib.hid (HRM.out.keeps HK3.out)
  have HRres := Lib.hid (HRres.out.keeps HK3.out)
  have HKW := Lib.hid (HKW.out.trans HK3.out)
  have HS0 := Lib.hid (Keeps.refl W3)
  clear HK3 HK2 HV1 HZ10 hb10
  go_upto_region 4 with (first | ((with_reducible refine gate_load 37 (.tmp 6) ?_); refine wpList_load_at rfl 37 (.tmp 6) rfl _ 0 rfl (M.map (Value.int .u32)) _ HRM.out Try.underlying37 rfl (by rw [List.length_map, lM]; exact sz_rnum) ?_) | ((with_reducible refine gate_store 37 (.tmp 8) (.tmp 26) ?_); refine wpList_store_row rfl 37 (.tmp 8) (.tmp 26) rfl W3.heap.size 0 rfl zeros8 (M.map (Value.int .u32)) rfl (Row.new _ _ _ rfl) (by rw [List.length_map, lM]; rfl) (by rw [List.length_map, lM]; exact sz_rnum) (int_oneCell _) ?_; intro W4 hr2 hc2; have HRE := Lib.hid hr2; have HK4 := Lib.hid (nm_keeps_chg (nm_keeps_alloc HS0.out _) hc2 HS0.out.size); clear hr2 hc2))
  have hlt3 := hsz2
  generalize W3.heap.size = g3 at *
  have HMM0 := Lib.hid (show LMem w W4 p g1 g2 g3 X M S M Zr from ⟨HKW.out.trans HK4.out, HRX.out.keeps HK4.out, HRres.out.keeps HK4.out, HRM.out.keeps HK4.out, HRS.out.keeps HK4.out, HRE.out, hlt1, hlt2, hlt3, HRE.out.lt (map_ne lM)⟩)
  have HI0 := Lib.hid (show IncSt (PV + 1) 0 M 1 from ⟨lM, by rw [HM8.out]; exact B32_digs _, .inr rfl, by rw [HM8.out, val_words8, Int.pow_zero]; decide⟩)
  clear HRX HRM HRres HRS HRE HKW HK4 HS0 hsz1 hsz2 hps
  go_wp2
  go_loopw [9, 10, 11] (fun cc c _ wr => ∃ (i : Nat) (L : List Int) (cv : Int), i ≤ 8 ∧ c = .int .i64 i ∧ cc = .int .u32 cv ∧ Hid (IncSt (PV + 1) i L cv) ∧ Hid (LMem w wr p g1 g2 g3 X M S L Zr)) (fun _ c _ _ => (8 - intOf c).toNat)
  case atStart => exact ⟨0, _, 1, by omega, rfl, rfl, HI0, HMM0⟩
  case round =>
    obtain ⟨i, L, cv, hi, rfl, rfl, HI, HMM⟩ := hrel
    have hL := HI.out.len
    by_cases hlt : i < 8
    · have cl := HMM.out.2.2.2.2.2.1.int0 i (by omega)
      have fl := HMM.out.2.2.2.2.2.1.free0 i (by rw [List.length_map]; omega)
      have ht := HI.out.dg.getD (i := i) (by omega)
      have hcv := HI.out.cc
      have HST := Lib.hid (fun c' t' => HI.out.step (c' := c') (t' := t') hlt)
      have HSET := Lib.hid (fun t => HMM.out.set hkp (i := i) (by omega) t)
      generalize L.getD i 0 = t at *
      clear HMM hL
      by_cases hov : t + cv < 4294967296
      · have HNEW := Lib.hid (HST.out 0 (t + cv) (by omega) hov (.inl rfl) (by omega))
        have HSET := Lib.hid (HSET.out (t + cv))
        have hw : IntKind.u32.wrap (t + cv) = t + cv := by rw [IntKind.wrap_u32]; omega
        have hge : t ≤ t + cv := by omega
        have hc2 := World.cell?_setCell_same wr ⟨g3, i, none⟩ (.int .u32 (t + cv)) cl
        go_wp2
        go_roundw
        case rel => exact ⟨i + 1, _, 0, by omega, by go_num, by first | rfl | go_num, HNEW, HSET⟩
        case measure => simp [intOf]; omega
      · obtain ⟨h1, h2⟩ : t = 4294967295 ∧ cv = 1 := by omega
        subst h1; subst h2
        have HNEW := Lib.hid (HST.out 1 0 (by omega) (by omega) (.inr rfl) (by omega))
        have HSET := Lib.hid (HSET.out 0)
        have hc2 := World.cell?_setCell_same wr ⟨g3, i, none⟩ (.int .u32 0) cl
        go_wp2
        go_roundw
        case rel => exact ⟨i + 1, _, 1, by omega, by go_num, by first | rfl | go_num, HNEW, HSET⟩
        case measure => simp [intOf]; omega
    · obtain rfl : i = 8 := by omega
      obtain rfl := HI.out.done (by decide)
      have HVU := Lib.hid (show U256 (PV + 1) from ⟨by decide, by decide⟩)
      clear HI hL
      go_wp2
      go_loopw [12, 13] (fun c _ wr => ∃ (k : Nat) (V : Int), k ≤ 2 ∧ c = .int .i64 k ∧ Hid (U256 V) ∧ Hid (V = (PV + 1) / 2 ^ k) ∧ Hid (LMem w wr p g1 g2 g3 X M S (words8 V) Zr)) (fun c _ _ => (2 - intOf c).toNat)
      case atStart => exact ⟨0, _, by omega, rfl, HVU, Lib.hid (by rw [Int.pow_zero, Int.ediv_one]), HMM⟩
      case round =>
        obtain ⟨k, V, hk2, rfl, HU, HV, HMM⟩ := hrel
        by_cases hltk : k < 2
        · have HHS := Lib.hid (fun i hi => half8_step HU.out i hi)
          have HWR := Lib.hid (words8_range V)
          have hwl := words8_length V
          have hwl2 := words8_length (V / 2)
          have HNV := Lib.hid (show U256 (V / 2) ∧ V / 2 = (PV + 1) / 2 ^ (k + 1) from ⟨⟨by have := HU.out.1; omega, by have := HU.out.2; omega⟩, by rw [HV.out, Int.pow_succ, Int.ediv_ediv_of_nonneg (Int.le_of_lt (Int.pow_pos (by decide)))]⟩)
          generalize hV8 : words8 V = L at *
          generalize hH8 : words8 (V / 2) = H at *
          have HH8 := Lib.hid hH8
          clear hV8 hH8
          go_wp2
          go_loopw [13] (fun c wr => ∃ (i : Nat), i ≤ 8 ∧ c = .int .i64 i ∧ Hid (LMem w wr p g1 g2 g3 X M S (mixL H L i) Zr)) (fun c _ => (8 - intOf c).toNat)
          case atStart => exact ⟨0, by omega, rfl, by rw [mixL_zero]; exact HMM⟩
          case round =>
            obtain ⟨i, hi, rfl, HMM⟩ := hrel
            have hl9 : (mixL H L i).length = 8 := by rw [mixL_length (by omega) (by omega)]; exact hwl
            by_cases hlt : i < 8
            · have cl := HMM.out.2.2.2.2.2.1.int0 i (by omega)
              have fl := HMM.out.2.2.2.2.2.1.free0 i (by rw [List.length_map]; omega)
              rw [mixL_getD (by omega) i (by omega) (by omega)] at cl
              have hst := HHS.out i hlt
              have hr := HWR.out i hlt
              have ht2 : (L.getD i 0).tdiv 2 = L.getD i 0 / 2 := Int.tdiv_eq_ediv_of_nonneg hr.1
              have HSET := Lib.hid (fun t => HMM.out.set hkp (i := i) (by omega) t)
              by_cases h7 : i < 7
              · have h7' : (i : Int) < 7 := by omega
                have cn := HMM.out.2.2.2.2.2.1.int0 (i + 1) (by omega)
                rw [mixL_getD (by omega) (i + 1) (by omega) (by omega)] at cn
                have hr2 := HWR.out (i + 1) (by omega)
                have ht3 : (L.getD (i + 1) 0).tmod 2 = L.getD (i + 1) 0 % 2 := Int.tmod_eq_emod_of_nonneg hr2.1
                rw [if_pos h7] at hst
                have HFIN := Lib.hid (show ∀ t, t = H.getD i 0 → (mixL H L i).set i t = mixL H L (i + 1) from fun t ht => by rw [ht]; exact mixL_set (by omega) (by omega))
                rw [← hst] at HFIN
                clear hst
                generalize L.getD i 0 = t at *
                generalize L.getD (i + 1) 0 = t2 at *
                by_cases hodd : t2 % 2 = 1
                · have HS2 := Lib.hid (show LMem w ((wr.setCell ⟨g3, i, none⟩ (.int .u32 (t / 2))).setCell ⟨g3, i, none⟩ (.int .u32 (t / 2 + 2147483648))) p g1 g2 g3 X M S ((mixL H L i).set i (t / 2 + 2147483648)) Zr by have := (HSET.out (t / 2)).set hkp (i := i) (by rw [List.length_set]; omega) (t / 2 + 2147483648); rwa [List.set_set] at this)
                  have HF2 := Lib.hid (HFIN.out (t / 2 + 2147483648) (by omega))
                  have hw : IntKind.u32.wrap (t / 2 + 2147483648) = t / 2 + 2147483648 := by rw [IntKind.wrap_u32]; omega
                  have hc1 := World.cell?_setCell_same wr ⟨g3, i, none⟩ (.int .u32 (t / 2)) cl
                  have hn1 : (wr.setCell ⟨g3, i, none⟩ (.int .u32 (t / 2))).cell? ⟨g3, i + 1, none⟩ = some (.int .u32 t2) := by
                    rw [World.cell?_setCell_other _ _ _ _ (by intro e; have := congrArg Addr.off e; simp at this)]; exact cn
                  clear HMM
                  go_wp2
                  go_roundw
                  case rel => first | exact ⟨i + 1, by omega, by go_num, by rw [← HF2.out]; exact HS2⟩ | ((repeat apply Exists.intro); focus (refine ⟨?_, rfl⟩; exact ⟨i + 1, by omega, by go_num, by rw [← HF2.out]; exact HS2⟩))
                  case measure => simp [intOf]; omega
                · have hne : ¬ t2 % 2 = 1 := hodd
                  have hz9 : (t2 % 2 == 1) = false := by simpa using hodd
                  have HS2 := Lib.hid (HSET.out (t / 2))
                  have HF2 := Lib.hid (HFIN.out (t / 2) (by omega))
                  have hn1 : (wr.setCell ⟨g3, i, none⟩ (.int .u32 (t / 2))).cell? ⟨g3, i + 1, none⟩ = some (.int .u32 t2) := by
                    rw [World.cell?_setCell_other _ _ _ _ (by intro e; have := congrArg Addr.off e; simp at this)]; exact cn
                  clear HMM
                  go_wp2
                  go_roundw
                  case rel => first | exact ⟨i + 1, by omega, by go_num, by rw [← HF2.out]; exact HS2⟩ | ((repeat apply Exists.intro); focus (refine ⟨?_, rfl⟩; exact ⟨i + 1, by omega, by go_num, by rw [← HF2.out]; exact HS2⟩))
                  case measure => simp [intOf]; omega
              · obtain rfl : i = 7 := by omega
                rw [if_neg (by decide)] at hst
                have HFIN := Lib.hid (show ∀ t, t = H.getD 7 0 → (mixL H L 7).set 7 t = mixL H L 8 from fun t ht => by rw [ht]; exact mixL_set (by omega) (by omega))
                rw [← hst] at HFIN
                clear hst
                generalize L.getD 7 0 = t at *
                have HS2 := Lib.hid (HSET.out (t / 2))
                have HF2 := Lib.hid (HFIN.out (t / 2) (by omega))
                clear HMM
                go_wp2
                go_roundw
                case rel => first | exact ⟨8, by omega, by go_num, by rw [← HF2.out]; exact HS2⟩ | ((repeat apply Exists.intro); focus (refine ⟨?_, rfl⟩; exact ⟨8, by omega, by go_num, by rw [← HF2.out]; exact HS2⟩))
                case measure => simp [intOf]
            · obtain rfl : i = 8 := by omega
              have hmx : mixL H L 8 = H := by unfold mixL; rw [List.take_of_length_le (by omega), List.drop_eq_nil_of_le (by omega), List.append_nil]
              rw [hmx] at HMM
              clear hmx hl9
              go_wp2
              go_roundw
              case rel => first | exact ⟨k + 1, V / 2, by omega, by go_num, Lib.hid HNV.out.1, Lib.hid HNV.out.2, by rw [HH8.out]; exact HMM⟩ | ((repeat apply Exists.intro); focus (refine ⟨?_, rfl⟩; exact ⟨k + 1, V / 2, by omega, by go_num, Lib.hid HNV.out.1, Lib.hid HNV.out.2, by rw [HH8.out]; exact HMM⟩))
              case measure => simp [intOf]; omega
        · obtain rfl : k = 2 := by omega
          obtain rfl : V = (PV + 1) / 2 / 2 := by rw [HV.out]; decide
          rw [← HRO.out] at HMM
          have lRO : RO.length = 8 := by rw [HRO.out]; exact words8_length _
          have LRO := Lib.hid lRO
          clear lRO HU HV
          have HMMS := Lib.hid HMM.out.2.2.2.2.1; have HMMM := Lib.hid HMM.out.2.2.2.1; have HMME := Lib.hid HMM.out.2.2.2.2.2.1
          go_upto_region 22 with (first | ((with_reducible refine gate_load 37 (.tmp 7) ?_); refine wpList_load_at rfl 37 (.tmp 7) rfl _ 0 rfl (S.map (Value.int .u32)) _ HMMS.out Try.underlying37 rfl (by rw [List.length_map, lS]; exact sz_rnum) ?_) | ((with_reducible refine gate_load 37 (.tmp 8) ?_); refine wpList_load_at rfl 37 (.tmp 8) rfl _ 0 rfl (RO.map (Value.int .u32)) _ HMME.out Try.underlying37 rfl (by rw [List.length_map, LRO.out]; exact sz_rnum) ?_) | ((with_reducible refine gate_load 37 (.tmp 6) ?_); refine wpList_load_at rfl 37 (.tmp 6) rfl _ 0 rfl (M.map (Value.int .u32)) _ HMMM.out Try.underlying37 rfl (by rw [List.length_map, lM]; exact sz_rnum) ?_) | (go_at_call 67; refine (HPW.out _).mono ?_; rintro e V5 ⟨rfl, hk1⟩; have HV5 := Lib.hid hk1; clear hk1) | ((with_reducible refine gate_store 37 (.tmp 14) (.tmp 79) ?_); refine wpList_store_row rfl 37 (.tmp 14) (.tmp 79) rfl V5.heap.size 0 rfl zeros8 (Y.map (Value.int .u32)) rfl (Row.new _ _ _ rfl) (by rw [List.length_map, lY]; rfl) (by rw [List.length_map, lY]; exact sz_rnum) (int_oneCell _) ?_; intro W6 hr2 hc2; have HRY := Lib.hid hr2; have HK6 := Lib.hid (nm_keeps_chg (nm_keeps_alloc HV5.out _) hc2 HV5.out.size); clear hr2 hc2))
          have hlt4 : g3 < V5.heap.size := Nat.lt_of_lt_of_le HMM.out.2.2.2.2.2.2.2.2.2 HV5.out.size
          generalize V5.heap.size = g4 at *
          have HMM := Lib.hid (HMM.out.keeps HK6.out)
          clear HMMS HMMM HMME HK6 HV5
          refine wp_region_keep 5 [] [0, 1, 2, 3, 4] (fun _ => zeros8) (by kernel_rfl) (by kernel_rfl) (by intro i hi; cases hi) ?_
          refine keep_pure (o := ?_) (v := ?_) ?_ ?_ ?_ ?_
          rotate_left 2
          focus (simp only [kG]; exact rfl)
          focus rfl
          focus (intro wS hS; (refine cu_run_load 37 (.tmp 14) ?_ g4 0 ?_ (Y.map (Value.int .u32)) _ (HRY.out.keeps hS) Try.underlying37 rfl (by rw [List.length_map, lY]; exact sz_rnum)) <;> rfl)
          try simp only [kP]
          refine keep_pure (o := ?_) (v := ?_) ?_ ?_ ?_ ?_
          rotate_left 2
          focus (simp only [kG]; exact rfl)
          focus rfl
          focus (intro wS hS; (refine cu_run_load 37 (.tmp 14) ?_ g4 0 ?_ (Y.map (Value.int .u32)) _ (HRY.out.keeps hS) Try.underlying37 rfl (by rw [List.length_map, lY]; exact sz_rnum)) <;> rfl)
          try simp only [kP]
          refine keep_pure (o := ?_) (v := ?_) ?_ ?_ ?_ ?_
          rotate_left 2
          focus (simp only [kG]; exact rfl)
          focus rfl
          focus (intro wS hS; (refine cu_run_load 37 (.tmp 6) ?_ g1 0 ?_ (M.map (Value.int .u32)) _ (HMM.out.2.2.2.1.keeps hS) Try.underlying37 rfl (by rw [List.length_map, lM]; exact sz_rnum)) <;> rfl)
          try simp only [kP]
          refine keep_call (o := ?_) (f := ?_) (args := ?_) (v := ?_) ?_ ?_ ?_ ?_ ?_
          rotate_left 4
          focus (simp only [kG]; exact rfl)
          focus rfl
          focus (intro wS; go_simp; refine ⟨?_, ?_⟩ <;> with_reducible rfl)
          focus (intro wS hS; exact HYY.out wS)
          try simp only [kP]
          refine keep_pure (o := ?_) (v := ?_) ?_ ?_ ?_ ?_
          rotate_left 2
          focus (simp only [kG]; exact rfl)
          focus rfl
          focus (intro wS hS; (refine cu_run_load 37 (.tmp 7) ?_ g2 0 ?_ (S.map (Value.int .u32)) _ (HMM.out.2.2.2.2.1.keeps hS) Try.underlying37 rfl (by rw [List.length_map, lS]; exact sz_rnum)) <;> rfl)
          try simp only [kP]
          refine keep_nil ?_
          intro GG V7 hk1 hG
          clear hG
          simp only [putsA, dstAt, Act.put, ptrV, List.drop_succ_cons, List.drop_zero, List.getElem?_toArray, List.getElem?_cons_succ, List.getElem?_cons_zero, Option.bind_some, List.setIfInBounds_toArray, List.set_cons_zero, List.set_cons_succ]
          have HMM := Lib.hid (HMM.out.keeps hk1)
          have HRY := Lib.hid (HRY.out.keeps hk1)
          clear hk1
          rcases HCASE.out with ⟨rfl, rfl, rfl⟩ | ⟨rfl, hpar, hRT, rfl⟩ | ⟨rfl, hpar, hRT, rfl⟩
          · go_wp2_with (first | (refine cu_neq (by kernel_rfl) 37 37 (.tmp 83) (.tmp 84) rfl _ _ rfl rfl false HE.out (by kernel_rfl) ?_) | ((with_reducible refine gate_store 39 (.tmp 4) (.tmp 86) ?_); refine wpList_store_row rfl 39 (.tmp 4) (.tmp 86) rfl (p + 1) 0 rfl Zr (zeroL24.map (Value.int .u32)) rfl HMM.out.2.2.1 (by rw [hZr]; rfl) sz_rpt (int_oneCell _) ?_; intro w9 hr9 hc9; have H9 := Lib.hid hr9; have HC9 := Lib.hid hc9; clear hr9 hc9))
            exact bodyPost_ret (results_cell_tmpB (p := 4) (t := 5) (ty := 39) rfl _ _ (p + 1) 0 _ _ _ rfl rfl H9.out Try.underlying39 rfl sz_rpt) rfl ⟨rfl, nm_keeps_chg HMM.out.1 HC9.out (by omega)⟩
          · have lRT : RT.length = 24 := by rw [hRT]; exact len3 lX lY lONE
            have hBP := built_rpt lX lY lONE
            rw [← hRT] at hBP
            have HBP := Lib.hid hBP
            have LRT := Lib.hid lRT
            have cy := HRY.out.int0 0 (by omega)
            have ht : (Y.getD 0 0).tmod 2 = Y.getD 0 0 % 2 := Int.tmod_eq_emod_of_nonneg hy0.1
            clear hBP hRT lRT
            generalize Y.getD 0 0 = y0 at *
            cases od
            all_goals
              go_upto_region 24 with (first | (refine cu_neq (by kernel_rfl) 37 37 (.tmp 83) (.tmp 84) rfl _ _ rfl rfl true HE.out (by kernel_rfl) ?_))
              go_upto_region 26 with (fail)
              go_wp2_with (first | ((with_reducible refine gate_load 37 (.tmp 2) ?_); refine wpList_load_at rfl 37 (.tmp 2) rfl _ 0 rfl (X.map (Value.int .u32)) _ HMM.out.2.1 Try.underlying37 rfl (by rw [List.length_map, lX]; exact sz_rnum) ?_) | ((with_reducible refine gate_load 37 (.tmp 14) ?_); refine wpList_load_at rfl 37 (.tmp 14) rfl _ 0 rfl (Y.map (Value.int .u32)) _ HRY.out Try.underlying37 rfl (by rw [List.length_map, lY]; exact sz_rnum) ?_) | ((with_reducible refine gate_build 37 _ ?_); refine cu_build (by kernel_rfl) 37 _ rfl _ ?_ _ HB1.out ?_; focus (simp only [List.map_toArray, List.map_cons, List.map_nil]; rfl)) | ((with_reducible refine gate_build 39 _ ?_); refine cu_build (by kernel_rfl) 39 _ rfl _ ?_ _ HBP.out ?_; focus (simp only [List.map_toArray, List.map_cons, List.map_nil]; rfl)) | ((with_reducible refine gate_store 39 (.tmp 4) (.tmp 100) ?_); refine wpList_store_row rfl 39 (.tmp 4) (.tmp 100) rfl (p + 1) 0 rfl Zr (RT.map (Value.int .u32)) rfl HMM.out.2.2.1 (by rw [List.length_map, LRT.out, hZr]) (by rw [List.length_map, LRT.out]; exact sz_rpt) (int_oneCell _) ?_; intro w9 hr9 hc9; have H9 := Lib.hid hr9; have HC9 := Lib.hid hc9; clear hr9 hc9))
              exact bodyPost_ret (results_cell_tmpB (p := 4) (t := 5) (ty := 39) rfl _ _ (p + 1) 0 _ _ _ rfl rfl H9.out Try.underlying39 rfl (by rw [List.length_map, LRT.out]; exact sz_rpt)) rfl ⟨rfl, nm_keeps_chg HMM.out.1 HC9.out (by omega)⟩
          · have lRT : RT.length = 24 := by rw [hRT]; exact len3 lX lNY lONE
            have hBP := built_rpt lX lNY lONE
            rw [← hRT] at hBP
            have HBP := Lib.hid hBP
            have LRT := Lib.hid lRT
            have cy := HRY.out.int0 0 (by omega)
            have ht : (Y.getD 0 0).tmod 2 = Y.getD 0 0 % 2 := Int.tmod_eq_emod_of_nonneg hy0.1
            clear hBP hRT lRT
            generalize Y.getD 0 0 = y0 at *
            cases od
            all_goals
              simp only [Bool.not_false, Bool.not_true] at hpar
              go_upto_region 24 with (first | (refine cu_neq (by kernel_rfl) 37 37 (.tmp 83) (.tmp 84) rfl _ _ rfl rfl true HE.out (by kernel_rfl) ?_))
              go_upto_region 25 with (fail)
              go_upto_region 26 with (first | ((with_reducible refine gate_load 37 (.tmp 14) ?_); refine wpList_load_at rfl 37 (.tmp 14) rfl _ 0 rfl (Y.map (Value.int .u32)) _ HRY.out Try.underlying37 rfl (by rw [List.length_map, lY]; exact sz_rnum) ?_) | ((with_reducible refine gate_load 37 (.tmp 6) ?_); refine wpList_load_at rfl 37 (.tmp 6) rfl _ 0 rfl (M.map (Value.int .u32)) _ HMM.out.2.2.2.1 Try.underlying37 rfl (by rw [List.length_map, lM]; exact sz_rnum) ?_) | (go_at_call 26; refine (HNG.out _).mono ?_; rintro e V8 ⟨rfl, hk1⟩; have HV8 := Lib.hid hk1; clear hk1) | ((with_reducible refine gate_store 37 (.tmp 14) (.tmp 96) ?_); refine wpList_store_row rfl 37 (.tmp 14) (.tmp 96) rfl _ 0 rfl (Y.map (Value.int .u32)) (NY.map (Value.int .u32)) rfl (HRY.out.keeps HV8.out) (by rw [List.length_map, List.length_map, lNY, lY]) (by rw [List.length_map, lNY]; exact sz_rnum) (int_oneCell _) ?_; intro W8 hr2 hc2; have HRN := Lib.hid hr2; have HCN := Lib.hid hc2; clear hr2 hc2))
              have HMM := Lib.hid ((HMM.out.keeps HV8.out).chg HCN.out hkp hlt4)
              go_wp2_with (first | ((with_reducible refine gate_load 37 (.tmp 2) ?_); refine wpList_load_at rfl 37 (.tmp 2) rfl _ 0 rfl (X.map (Value.int .u32)) _ HMM.out.2.1 Try.underlying37 rfl (by rw [List.length_map, lX]; exact sz_rnum) ?_) | ((with_reducible refine gate_load 37 (.tmp 14) ?_); refine wpList_load_at rfl 37 (.tmp 14) rfl _ 0 rfl (NY.map (Value.int .u32)) _ HRN.out Try.underlying37 rfl (by rw [List.length_map, lNY]; exact sz_rnum) ?_) | ((with_reducible refine gate_build 37 _ ?_); refine cu_build (by kernel_rfl) 37 _ rfl _ ?_ _ HB1.out ?_; focus (simp only [List.map_toArray, List.map_cons, List.map_nil]; rfl)) | ((with_reducible refine gate_build 39 _ ?_); refine cu_build (by kernel_rfl) 39 _ rfl _ ?_ _ HBP.out ?_; focus (simp only [List.map_toArray, List.map_cons, List.map_nil]; rfl)) | ((with_reducible refine gate_store 39 (.tmp 4) (.tmp 100) ?_); refine wpList_store_row rfl 39 (.tmp 4) (.tmp 100) rfl (p + 1) 0 rfl Zr (RT.map (Value.int .u32)) rfl HMM.out.2.2.1 (by rw [List.length_map, LRT.out, hZr]) (by rw [List.length_map, LRT.out]; exact sz_rpt) (int_oneCell _) ?_; intro w9 hr9 hc9; have H9 := Lib.hid hr9; have HC9 := Lib.hid hc9; clear hr9 hc9))
              exact bodyPost_ret (results_cell_tmpB (p := 4) (t := 5) (ty := 39) rfl _ _ (p + 1) 0 _ _ _ rfl rfl H9.out Try.underlying39 rfl (by rw [List.length_map, LRT.out]; exact sz_rpt)) rfl ⟨rfl, nm_keeps_chg HMM.out.1 HC9.out (by omega)⟩
end Go.Proofs.Ytajipagpdphejaa
