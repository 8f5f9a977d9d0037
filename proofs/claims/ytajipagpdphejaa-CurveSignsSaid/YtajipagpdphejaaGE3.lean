/- curve's signature on numbers, and Sign. No condition. -/
import Derived.Test.YtajipagpdphejaaGE2
namespace Go.Proofs.Ytajipagpdphejaa
set_option linter.unusedVariables false
set_option linter.unusedSimpArgs false
open Go Go.RowKit Cv

theorem nadd_any (g : Nat) (x y : Nat) (hx : x < nVn) (hy : y < nVn) (w : World) (hr : Row w g 0 gCells) : Calls Try.prog 53 #[.pointer (some ⟨g, 7, none⟩), .agg ((nw x).map (Value.int .u64)).toArray, .agg ((nw y).map (Value.int .u64)).toArray] w fun e w' => e = .returned (.agg ((nw ((x + y) % nVn)).map (Value.int .u64)).toArray) ∧ Keeps w w' := by
  have hn := nv_eq
  have := add_any g 7 NV x y NV_u256 ⟨by omega, by omega⟩ ⟨by omega, by omega⟩ w (gCells_n hr)
  have e : ((x : Int) + (y : Int)) % NV = (((x + y) % nVn : Nat) : Int) := by rw [hn, Int.natCast_emod, Int.natCast_add]
  rwa [e] at this
theorem nneg_any (g : Nat) (x : Nat) (hx : x < nVn) (w : World) (hr : Row w g 0 gCells) : Calls Try.prog 78 #[.pointer (some ⟨g, 7, none⟩), .agg ((nw x).map (Value.int .u64)).toArray] w fun e w' => e = .returned (.agg ((nw (if x = 0 then 0 else nVn - x)).map (Value.int .u64)).toArray) ∧ Keeps w w' := by
  have hn := nv_eq
  have := neg_any g 7 NV x NV_u256 (nv_u256 hx) w (gCells_n hr)
  have e : (if (x : Int) = 0 then 0 else NV - (x : Int)) = ((if x = 0 then 0 else nVn - x : Nat) : Int) := by
    by_cases h : x = 0
    · subst h; rfl
    · rw [if_neg (by omega), if_neg h, hn]; omega
  rwa [e] at this
theorem nzero_any (x : Nat) (hx : x < nVn) (w : World) : Calls Try.prog 54 #[.agg ((nw x).map (Value.int .u64)).toArray] w fun e w' => e = .returned (.bool (decide (x = 0))) ∧ Keeps w w' := by
  have := czero_any (x : Int) (nv_u256 hx) w
  rwa [show decide ((x : Int) = 0) = decide (x = 0) by simp] at this
theorem sig_any (g d e k : Nat) (hd : d < nVn) (he : e < nVn) (hk : k < nVn) (w : World) (hr : Row w g 0 gCells) :
    Calls Try.prog 59 #[.pointer (some ⟨g, 0, none⟩), .agg ((nw d).map (Value.int .u64)).toArray, .agg ((nw e).map (Value.int .u64)).toArray, .agg ((nw k).map (Value.int .u64)).toArray] w fun r w' => r = .returned (.tuple #[.agg ((sgB d e k).map (Value.int .u8)).toArray, .bool (sgOk d e k)]) ∧ Keeps w w' := by
  by_cases h0 : k = 0
  · have e1 : sgB d e k = zeroL64 := by unfold sgB; rw [if_pos h0]
    have e2 : sgOk d e k = false := by unfold sgOk; rw [if_pos h0]
    rw [e1, e2]
    exact sig0_walk g _ _ _ (words_length _) w hr (fun W => by have := nzero_any k hk W; rwa [decide_eq_true h0] at this)
  · have e1 : sgB d e k = toB 32 (sgR k : Int) ++ toB 32 (sgS d e k : Int) := by unfold sgB; rw [if_neg h0]
    have e2 : sgOk d e k = (!decide (sgR k = 0) && !decide (sgS d e k = 0)) := by unfold sgOk; rw [if_neg h0]
    rw [e1, e2]
    have hn := nv_eq
    have hrl := sgR_lt k; have hzl := sgZ_lt d e k; have hsl := sgS_lt d e k
    have hll : sgL d e k < nVn := by unfold sgL; split <;> omega
    have hil : sgI k < nVn := Nat.mod_lt _ n_pos
    have hxl := sgX_lt k
    have hR : words ((sgX k : Int) % NV) = nw (sgR k) := by
      unfold nw sgR; rw [hn, Int.natCast_emod]
    have hW : nw (wN (k : Int)) = nw (sgI k) := by unfold wN sgI; rw [Int.toNat_natCast]
    refine sig_walk g (nw d) (nw e) (nw k) (ptW gJ) (ptW (timesJ k gJ 256)) (nw (sgX k)) (nw (flatJ (timesJ k gJ 256)).2) (nw (sgR k)) (nw (sgI k)) (nw (sgR k * d % nVn)) (nw ((e + sgR k * d % nVn) % nVn)) (nw (sgZ d e k)) (nw (sgL d e k)) (nw (sgS d e k)) _ _ (!decide (sgL d e k < sgZ d e k)) (decide (sgR k = 0)) (decide (sgS d e k = 0)) _ (words_length _) (words_length _) (words_length _) (ptW_len _) (words_length _) (words_length _) (words_length _) (words_length _) (words_length _) (words_length _) (words_length _) (words_length _) (toB_length _ _) (toB_length _ _) w hr
      (fun W => by have := nzero_any k hk W; rwa [decide_eq_false h0] at this)
      (fun W hr => base_any g W hr) (fun W hr => times_any g k gJ (Nat.lt_trans hk n_lt) gJ_ok W hr) (fun W hr => flat_any g _ (timesJ_ok _ gJ_ok 256) W hr)
      (fun W hr => by have := nin_any g (sgX k : Int) (nat_u256 hxl) W hr; rwa [hR] at this)
      (fun W hr => by have := ninv_any g (k : Int) (by omega) (by omega) W hr; rwa [hW] at this)
      (fun W hr => nmul_any g _ _ hrl hd W hr) (fun W hr => nadd_any g _ _ he (Nat.mod_lt _ n_pos) W hr) (fun W hr => nmul_any g _ _ hil (Nat.mod_lt _ n_pos) W hr) (fun W hr => nneg_any g _ hzl W hr)
      (fun W => by have := leq_any (sgZ d e k : Int) (sgL d e k : Int) (nv_u256 hzl) (nv_u256 hll) W; rwa [show decide ((sgL d e k : Int) < (sgZ d e k : Int)) = decide (sgL d e k < sgZ d e k) by simp] at this)
      ?_ (fun W => cbytes_any _ W) (fun W => cbytes_any _ W) (fun W => nzero_any _ hrl W) (fun W => nzero_any _ hsl W) ?_
    · by_cases h : sgL d e k < sgZ d e k
      · right; exact ⟨by simp [h], by unfold sgS; rw [if_pos h]⟩
      · left; exact ⟨by simp [h], by unfold sgS; rw [if_neg h]⟩
    · by_cases h : sgR k = 0
      · left; exact ⟨decide_eq_true h, by simp [h]⟩
      · right; exact ⟨decide_eq_false h, by simp [h]⟩
theorem sgK_shift (k j : Nat) : sgK ((k + 1) % nVn) j = sgK k (j + 1) := by
  unfold sgK
  rw [Nat.mod_add_mod]
  congr 1
  omega
theorem sgN_at {d e : Nat} : ∀ (m i k : Nat) (out : List Int), i < m → (∀ j, j < i → sgOk d e (sgK k j) = false) → sgOk d e (sgK k i) = true → sgN d e m k out = sgB d e (sgK k i)
  | 0, _, _, _, h, _, _ => absurd h (Nat.not_lt_zero _)
  | m + 1, 0, k, out, _, _, h => by
    unfold sgN
    rw [if_pos (show sgOk d e ((k + 1) % nVn) = true from h)]
    rfl
  | m + 1, i + 1, k, out, hi, hj, h => by
    have h0 := hj 0 (by omega)
    unfold sgN
    rw [if_neg (by rw [show (k + 1) % nVn = sgK k 0 from rfl, h0]; exact Bool.false_ne_true)]
    have := sgN_at m i ((k + 1) % nVn) (sgB d e ((k + 1) % nVn)) (by omega) (fun j hj' => by rw [sgK_shift]; exact hj (j + 1) (by omega)) (by rw [sgK_shift]; exact h)
    rw [this, sgK_shift]
theorem sgN_no {d e : Nat} : ∀ (m k : Nat) (out : List Int), (∀ j, j < m + 1 → sgOk d e (sgK k j) = false) → sgN d e (m + 1) k out = sgB d e (sgK k m)
  | m, k, out, hj => by
    have h0 := hj 0 (by omega)
    unfold sgN
    rw [if_neg (by rw [show (k + 1) % nVn = sgK k 0 from rfl, h0]; exact Bool.false_ne_true)]
    cases m with
    | zero => rfl
    | succ m =>
      have := sgN_no m ((k + 1) % nVn) (sgB d e ((k + 1) % nVn)) (fun j hj' => by rw [sgK_shift]; exact hj (j + 1) (by omega))
      rw [this, sgK_shift]
/-- the memory of Sign's loop -/
structure SgMem (w wr : World) (p g qd qe qk qo : Nat) (D E K O : List Int) (Zr : List Value) : Prop where
  keeps : Keeps w wr
  row : Row wr g 0 gCells
  d : Row wr qd 0 (D.map (Value.int .u64))
  e : Row wr qe 0 (E.map (Value.int .u64))
  k : Row wr qk 0 (K.map (Value.int .u64))
  o : Row wr qo 0 (O.map (Value.int .u8))
  z : Row wr (p + 1 + 1) 0 Zr
theorem SgMem.keep {w wr w' : World} {p g qd qe qk qo : Nat} {D E K O : List Int} {Zr : List Value} (h : SgMem w wr p g qd qe qk qo D E K O Zr) (hk : Keeps wr w') : SgMem w w' p g qd qe qk qo D E K O Zr :=
  ⟨h.keeps.trans hk, h.row.keeps hk, h.d.keeps hk, h.e.keeps hk, h.k.keeps hk, h.o.keeps hk, h.z.keeps hk⟩
theorem SgMem.putK {w wr w' : World} {p g qd qe qk qo : Nat} {D E K K' O : List Int} {Zr : List Value} (h : SgMem w wr p g qd qe qk qo D E K O Zr) (hr : Row w' qk 0 (K'.map (Value.int .u64))) (hc : Chg (· = qk) wr w') (h1 : w.heap.size ≤ qk) (h2 : g ≠ qk) (h3 : qd ≠ qk) (h4 : qe ≠ qk) (h5 : qo ≠ qk) (h6 : p + 1 + 1 ≠ qk) : SgMem w w' p g qd qe qk qo D E K' O Zr :=
  ⟨nm_keeps_chg h.keeps hc h1, h.row.chg hc h2, h.d.chg hc h3, h.e.chg hc h4, hr, h.o.chg hc h5, h.z.chg hc h6⟩
theorem SgMem.putO {w wr w' : World} {p g qd qe qk qo : Nat} {D E K O O' : List Int} {Zr : List Value} (h : SgMem w wr p g qd qe qk qo D E K O Zr) (hr : Row w' qo 0 (O'.map (Value.int .u8))) (hc : Chg (· = qo) wr w') (h1 : w.heap.size ≤ qo) (h2 : g ≠ qo) (h3 : qd ≠ qo) (h4 : qe ≠ qo) (h5 : qk ≠ qo) (h6 : p + 1 + 1 ≠ qo) : SgMem w w' p g qd qe qk qo D E K O' Zr :=
  ⟨nm_keeps_chg h.keeps hc h1, h.row.chg hc h2, h.d.chg hc h3, h.e.chg hc h4, h.k.chg hc h5, hr, h.z.chg hc h6⟩
set_option maxRecDepth 100000 in
set_option maxHeartbeats 16000000 in
theorem sign_walk (K M D MN E RES : List Int) (KK BB : Nat → List Int) (OKS : Nat → Bool) (kb : Bool) (lK : K.length = 32) (lM : M.length = 32) (lD : D.length = 4) (lE : E.length = 4) (lKK : ∀ i, (KK i).length = 4) (lBB : ∀ i, (BB i).length = 64) (hB0 : BB 0 = zeroL64) (w : World)
    (hKey : ∀ g W, Row W g 0 gCells → Calls Try.prog 29 #[.pointer (some ⟨g, 0, none⟩), .agg (K.map (Value.int .u8)).toArray] W fun e w' => e = .returned (.tuple #[.agg (D.map (Value.int .u64)).toArray, .bool kb]) ∧ Keeps W w')
    (hcase : (kb = false ∧ RES = zeroL64) ∨ (kb = true ∧
      (∀ v W, Rd W 1 v 32 (M.map (Value.int .u8)) → Calls Try.prog 44 #[v] W fun e w' => e = .returned (.agg (MN.map (Value.int .u64)).toArray) ∧ Keeps W w') ∧
      (∀ g W, Row W g 0 gCells → Calls Try.prog 43 #[.pointer (some ⟨g, 7, none⟩), .agg (MN.map (Value.int .u64)).toArray] W fun e w' => e = .returned (.agg (E.map (Value.int .u64)).toArray) ∧ Keeps W w') ∧
      (∀ g W, Row W g 0 gCells → Calls Try.prog 58 #[.pointer (some ⟨g, 7, none⟩), .agg (K.map (Value.int .u8)).toArray, .agg (M.map (Value.int .u8)).toArray] W fun e w' => e = .returned (.agg ((KK 0).map (Value.int .u64)).toArray) ∧ Keeps W w') ∧
      (∀ g i W, Row W g 0 gCells → Calls Try.prog 53 #[.pointer (some ⟨g, 7, none⟩), .agg ((KK i).map (Value.int .u64)).toArray, .agg #[.int .u64 1, .int .u64 0, .int .u64 0, .int .u64 0]] W fun e w' => e = .returned (.agg ((KK (i + 1)).map (Value.int .u64)).toArray) ∧ Keeps W w') ∧
      (∀ g i W, Row W g 0 gCells → Calls Try.prog 59 #[.pointer (some ⟨g, 0, none⟩), .agg (D.map (Value.int .u64)).toArray, .agg (E.map (Value.int .u64)).toArray, .agg ((KK (i + 1)).map (Value.int .u64)).toArray] W fun e w' => e = .returned (.tuple #[.agg ((BB (i + 1)).map (Value.int .u8)).toArray, .bool (OKS (i + 1))]) ∧ Keeps W w') ∧
      (∀ i, i < 16 → (∀ j, j < i → OKS (j + 1) = false) → OKS (i + 1) = true → BB (i + 1) = RES) ∧ ((∀ j, j < 16 → OKS (j + 1) = false) → BB 16 = RES))) :
    Calls Try.prog 23 #[.agg (K.map (Value.int .u8)).toArray, .agg (M.map (Value.int .u8)).toArray] w fun e w' => e = .returned (.tuple #[.agg (RES.map (Value.int .u8)).toArray, .int .i64 (if kb then 0 else 1)]) ∧ Keeps w w' := by
  have HKEY := Lib.hid hKey; have HCASE := Lib.hid hcase; have HCV := Lib.hid curve_any
  have HLKK := Lib.hid lKK; have HLBB := Lib.hid lBB; have HB0 := Lib.hid hB0
  clear hKey hcase lKK lBB hB0
  go_enter Try.func23, Try.ntmps23
  go_upto_region 1 with (fail)
  refine wp_rows3 (fun W hk hra hrb hrc hs => ?_)
  obtain ⟨p, hp⟩ : ∃ p, p = w.heap.size := ⟨_, rfl⟩
  rw [← hp] at hra hrb hrc hs ⊢
  have hkp : w.heap.size ≤ p := by omega
  obtain ⟨Zr, hZr, hrz⟩ : ∃ Zr : List Value, Zr.length = 64 ∧ Row W (p + 1 + 1) 0 Zr := ⟨_, rfl, hrc⟩
  have HRK := Lib.hid (show Row W p 0 (K.map (Value.int .u8)) from hra); have HRM := Lib.hid (show Row W (p + 1) 0 (M.map (Value.int .u8)) from hrb); have HKW := Lib.hid hk; have HRres := Lib.hid hrz
  have hpW : p + 1 + 1 < W.heap.size := by omega
  clear hp hk hra hrb hrc hrz hs
  go_upto_region 2 with (go_at_call 28; refine (HCV.out _).mono ?_; rintro e W1 ⟨g, rfl, hk1, hgg, hrow⟩; have HK1 := Lib.hid hk1; have HROW := Lib.hid hrow; clear hk1 hrow)
  have HRK := Lib.hid (HRK.out.keeps HK1.out)
  have hgW1 : g < W1.heap.size := HROW.out.lt (by intro h; cases h)
  go_upto_region 3 with (first | (refine wpList_load_at rfl 22 (.tmp 2) rfl _ 0 rfl (K.map (Value.int .u8)) _ HRK.out Try.underlying22 rfl (by rw [List.length_map, lK]; exact sz_b32') ?_) | (go_at_call 29; refine (HKEY.out g _ HROW.out).mono ?_; rintro e W2 ⟨rfl, hk2⟩; have HK2 := Lib.hid hk2; clear hk2) | (refine wpList_store_row rfl 69 (.tmp 7) (.tmp 17) rfl W2.heap.size 0 rfl zeros4 (D.map (Value.int .u64)) rfl (Row.new _ _ _ rfl) (by rw [List.length_map, lD]; rfl) (by rw [List.length_map, lD]; exact sz_cnum) (int_oneCell _) ?_; intro W3 hr2 hc2; have HRD := Lib.hid hr2; have HK3 := Lib.hid (nm_keeps_chg (nm_keeps_alloc HK2.out _) hc2 HK2.out.size); clear hr2 hc2))
  have hgd : g < W2.heap.size := Nat.lt_of_lt_of_le hgW1 HK2.out.size
  generalize W2.heap.size = qd at *
  have HROW := Lib.hid (HROW.out.keeps HK3.out)
  have HKA := Lib.hid (HK1.out.trans HK3.out)
  have HRres := Lib.hid (HRres.out.keeps HKA.out); have HRM := Lib.hid (HRM.out.keeps HKA.out); have HRK := Lib.hid (HRK.out.keeps HK3.out)
  have HKW := Lib.hid (HKW.out.trans HKA.out)
  have hpW3 : p + 1 + 1 < W3.heap.size := Nat.lt_of_lt_of_le hpW HKA.out.size
  have hdW : qd < W3.heap.size := HRD.out.lt (map_ne lD)
  clear HKA HK3 HK2 HK1
  rcases HCASE.out with ⟨rfl, rfl⟩ | ⟨rfl, hNum, hIn, hNon, hAdd, hSig, hRes, hAll⟩
  · go_wp2_with (refine wpList_store_row rfl 56 (.tmp 4) (.tmp 21) rfl _ 0 rfl Zr (zeroL64.map (Value.int .u8)) rfl HRres.out (by rw [hZr]; rfl) sz_b64 (int_oneCell _) ?_; intro W8 hr2 hc2; have HN := Lib.hid hr2; have HC := Lib.hid hc2; clear hr2 hc2)
    exact bodyPost_ret (results_cell_tmpB (p := 4) (t := 5) (ty := 56) rfl _ _ (p + 1 + 1) 0 _ _ _ rfl rfl HN.out Try.underlying56 rfl sz_b64) rfl ⟨rfl, nm_keeps_chg HKW.out HC.out (by omega)⟩
  have HNUM := Lib.hid hNum; have HIN := Lib.hid hIn; have HNON := Lib.hid hNon; have HADD := Lib.hid hAdd; have HSIG := Lib.hid hSig; have HRES := Lib.hid hRes; have HALL := Lib.hid hAll
  clear hNum hIn hNon hAdd hSig hRes hAll HCASE HKEY HCV
  go_upto_region 5 with (fail)
  have HRDM := Lib.hid (show Rd W3 1 (.slice (some ⟨p + 1, 0, none⟩) 32 32) 32 (M.map (Value.int .u8)) from Rd.of_row HRM.out (by simp [lM]) (by omega) (Nat.le_refl _) (by unfold maxLen; omega))
  refine wp_region_keep 7 [6] [0, 1, 2, 3, 4, 5] (fun _ => zeros4) (by kernel_rfl) (by kernel_rfl) (by intro i hi; simp only [List.mem_cons, List.not_mem_nil, or_false] at hi; (first | (rcases hi with rfl | rfl) | subst hi) <;> exact ⟨_, rfl, alloc_num rfl rfl⟩) ?_
  refine keep_pure (o := ?_) (v := ?_) ?_ ?_ ?_ ?_
  rotate_left 2
  focus (simp only [kG]; exact rfl)
  focus rfl
  focus ((intro wS hS; go_simp) <;> with_reducible rfl)
  try simp only [kP]
  refine keep_pure (o := ?_) (v := ?_) ?_ ?_ ?_ ?_
  rotate_left 2
  focus (simp only [kG]; exact rfl)
  focus rfl
  focus ((intro wS hS; go_simp) <;> with_reducible rfl)
  try simp only [kP]
  refine keep_pure (o := ?_) (v := ?_) ?_ ?_ ?_ ?_
  rotate_left 2
  focus (simp only [kG]; exact rfl)
  focus rfl
  focus ((intro wS hS; go_simp) <;> with_reducible rfl)
  try simp only [kP]
  refine keep_pure (o := ?_) (v := ?_) ?_ ?_ ?_ ?_
  rotate_left 2
  focus (simp only [kG]; exact rfl)
  focus rfl
  focus ((intro wS hS; go_simp) <;> with_reducible rfl)
  try simp only [kP]
  refine keep_call (o := ?_) (f := ?_) (args := ?_) (v := ?_) ?_ ?_ ?_ ?_ ?_
  rotate_left 4
  focus (simp only [kG]; exact rfl)
  focus rfl
  focus (intro wS; go_simp; refine ⟨?_, ?_⟩ <;> with_reducible rfl)
  focus (intro wS hS; exact HNUM.out _ wS (HRDM.out.keeps hS))
  try simp only [kP]
  refine keep_call (o := ?_) (f := ?_) (args := ?_) (v := ?_) ?_ ?_ ?_ ?_ ?_
  rotate_left 4
  focus (simp only [kG]; exact rfl)
  focus rfl
  focus (intro wS; go_simp; refine ⟨?_, ?_⟩ <;> with_reducible rfl)
  focus (intro wS hS; exact HIN.out g wS (HROW.out.keeps hS))
  try simp only [kP]
  refine keep_nil ?_
  intro GG V1 hk1 hG
  obtain ⟨ha6, hz6, hd6⟩ := hG 6 (by simp)
  clear hd6
  simp only [putsA, dstAt, Act.put, ptrV, List.drop_succ_cons, List.drop_zero, List.getElem?_toArray, List.getElem?_cons_succ, List.getElem?_cons_zero, Option.bind_some, List.setIfInBounds_toArray, List.set_cons_zero, List.set_cons_succ]
  generalize GG 6 = qe at *
  clear hG
  have HZ6 := Lib.hid hz6; have HV1 := Lib.hid hk1; clear hk1 hz6
  go_upto_region 6 with (refine wpList_store_row rfl 69 (.tmp 9) (.tmp 27) rfl _ 0 rfl zeros4 (E.map (Value.int .u64)) rfl HZ6.out (by rw [List.length_map, lE]; rfl) (by rw [List.length_map, lE]; exact sz_cnum) (int_oneCell _) ?_; intro W6 hr2 hc2; have HRE := Lib.hid hr2; have HK6 := Lib.hid (nm_keeps_chg HV1.out hc2 ha6); clear hr2 hc2)
  have HROW := Lib.hid (HROW.out.keeps HK6.out); have HRD := Lib.hid (HRD.out.keeps HK6.out); have HRres := Lib.hid (HRres.out.keeps HK6.out); have HRM := Lib.hid (HRM.out.keeps HK6.out); have HRK := Lib.hid (HRK.out.keeps HK6.out); have HKW := Lib.hid (HKW.out.trans HK6.out)
  have heW : qe < W6.heap.size := HRE.out.lt (map_ne lE)
  have hde : qd < qe := Nat.lt_of_lt_of_le hdW ha6
  have hpe : p + 1 + 1 < qe := Nat.lt_of_lt_of_le hpW3 ha6
  clear HK6 HV1 HZ6 HRDM HNUM HIN ha6
  refine wp_region_keep 7 [6] [0, 1, 2, 3, 4, 5] (fun _ => zeros4) (by kernel_rfl) (by kernel_rfl) (by intro i hi; simp only [List.mem_cons, List.not_mem_nil, or_false] at hi; (first | (rcases hi with rfl | rfl) | subst hi) <;> exact ⟨_, rfl, alloc_num rfl rfl⟩) ?_
  refine keep_pure (o := ?_) (v := ?_) ?_ ?_ ?_ ?_
  rotate_left 2
  focus (simp only [kG]; exact rfl)
  focus rfl
  focus ((intro wS hS; go_simp) <;> with_reducible rfl)
  try simp only [kP]
  refine keep_pure (o := ?_) (v := ?_) ?_ ?_ ?_ ?_
  rotate_left 2
  focus (simp only [kG]; exact rfl)
  focus rfl
  focus ((intro wS hS; go_simp) <;> with_reducible rfl)
  try simp only [kP]
  refine keep_pure (o := ?_) (v := ?_) ?_ ?_ ?_ ?_
  rotate_left 2
  focus (simp only [kG]; exact rfl)
  focus rfl
  focus ((intro wS hS; go_simp) <;> with_reducible rfl)
  try simp only [kP]
  refine keep_pure (o := ?_) (v := ?_) ?_ ?_ ?_ ?_
  rotate_left 2
  focus (simp only [kG]; exact rfl)
  focus rfl
  focus (intro wS hS; (refine cu_run_load 22 (.tmp 2) ?_ p 0 ?_ (K.map (Value.int .u8)) _ (HRK.out.keeps hS) Try.underlying22 rfl (by rw [List.length_map, lK]; exact sz_b32')) <;> rfl)
  try simp only [kP]
  refine keep_pure (o := ?_) (v := ?_) ?_ ?_ ?_ ?_
  rotate_left 2
  focus (simp only [kG]; exact rfl)
  focus rfl
  focus (intro wS hS; (refine cu_run_load 44 (.tmp 3) ?_ (p + 1) 0 ?_ (M.map (Value.int .u8)) _ (HRM.out.keeps hS) Try.underlying44 rfl (by rw [List.length_map, lM]; exact sz_hash)) <;> rfl)
  try simp only [kP]
  refine keep_call (o := ?_) (f := ?_) (args := ?_) (v := ?_) ?_ ?_ ?_ ?_ ?_
  rotate_left 4
  focus (simp only [kG]; exact rfl)
  focus rfl
  focus (intro wS; go_simp; refine ⟨?_, ?_⟩ <;> with_reducible rfl)
  focus (intro wS hS; exact HNON.out g wS (HROW.out.keeps hS))
  try simp only [kP]
  refine keep_nil ?_
  intro GG V1 hk1 hG
  obtain ⟨ha6, hz6, hd6⟩ := hG 6 (by simp)
  clear hd6
  simp only [putsA, dstAt, Act.put, ptrV, List.drop_succ_cons, List.drop_zero, List.getElem?_toArray, List.getElem?_cons_succ, List.getElem?_cons_zero, Option.bind_some, List.setIfInBounds_toArray, List.set_cons_zero, List.set_cons_succ]
  generalize GG 6 = qk at *
  clear hG
  have HZ6 := Lib.hid hz6; have HV1 := Lib.hid hk1; clear hk1 hz6
  have hk0 := HLKK.out 0
  go_upto_region 7 with (refine wpList_store_row rfl 69 (.tmp 10) (.tmp 33) rfl _ 0 rfl zeros4 ((KK 0).map (Value.int .u64)) rfl HZ6.out (by rw [List.length_map, hk0]; rfl) (by rw [List.length_map, hk0]; exact sz_cnum) (int_oneCell _) ?_; intro W7 hr2 hc2; have HRN := Lib.hid hr2; have HK7 := Lib.hid (nm_keeps_chg HV1.out hc2 ha6); clear hr2 hc2)
  have HROW := Lib.hid (HROW.out.keeps HK7.out); have HRD := Lib.hid (HRD.out.keeps HK7.out); have HRE := Lib.hid (HRE.out.keeps HK7.out); have HRres := Lib.hid (HRres.out.keeps HK7.out); have HKW := Lib.hid (HKW.out.trans HK7.out)
  have hkW : qk < W7.heap.size := HRN.out.lt (map_ne hk0)
  have hek : qe < qk := Nat.lt_of_lt_of_le heW ha6
  clear HK7 HV1 HZ6 HNON ha6 HRK HRM
  go_upto_region 8 with (fail)
  refine cu_rows1 (fun W8 hk1 hr1 hs1 => ?_)
  have HMEM := Lib.hid (show SgMem w W8 p g qd qe qk W7.heap.size D E (KK 0) (BB 0) Zr from ⟨HKW.out.trans hk1, HROW.out.keeps hk1, HRD.out.keeps hk1, HRE.out.keeps hk1, HRN.out.keeps hk1, by rw [HB0.out]; exact hr1, HRres.out.keeps hk1⟩)
  generalize W7.heap.size = qo at *
  clear hk1 hr1 hs1 HKW HROW HRD HRE HRN HRres HB0
  go_wp2
  go_loopw [34] (fun c wr => ∃ i : Nat, i ≤ 16 ∧ c = .int .i64 i ∧ Hid (SgMem w wr p g qd qe qk qo D E (KK i) (BB i) Zr) ∧ Hid (∀ j, j < i → OKS (j + 1) = false)) (fun c _ => (16 - intOf c).toNat)
  case atStart => exact ⟨0, by omega, rfl, HMEM, Lib.hid (fun j hj => absurd hj (Nat.not_lt_zero _))⟩
  case round =>
    obtain ⟨i, hi, rfl, HM, HNO⟩ := hrel
    clear HMEM
    by_cases hlt : i < 16
    · have hlt' : (i : Int) < 16 := by omega
      have lk := HLKK.out i; have lk1 := HLKK.out (i + 1); have lb := HLBB.out i; have lb1 := HLBB.out (i + 1)
      have HAD := Lib.hid (fun W hr => HADD.out g i W hr); have HSI := Lib.hid (fun W hr => HSIG.out g i W hr)
      have HRR := Lib.hid (HRES.out i hlt HNO.out)
      have HNX := Lib.hid (fun (h : OKS (i + 1) = false) j (hj : j < i + 1) => show OKS (j + 1) = false by
        rcases Nat.lt_or_ge j i with h1 | h1
        · exact HNO.out j h1
        · obtain rfl : j = i := by omega
          exact h)
      generalize hK1 : KK (i + 1) = K1 at *
      generalize hB1 : BB (i + 1) = B1 at *
      generalize hO1 : OKS (i + 1) = O1 at *
      have HK1 := Lib.hid hK1; have HB1 := Lib.hid hB1
      clear hK1 hB1 hO1
      go_upto_region 10 with (fail)
      refine wp_region_keep 6 [] [0, 1, 2, 3, 4, 5] (fun _ => []) (by kernel_rfl) (by kernel_rfl) (by intro i hi; cases hi) ?_
      refine keep_pure (o := ?_) (v := ?_) ?_ ?_ ?_ ?_
      rotate_left 2
      focus (simp only [kG]; exact rfl)
      focus rfl
      focus ((intro wS hS; go_simp) <;> with_reducible rfl)
      try simp only [kP]
      refine keep_pure (o := ?_) (v := ?_) ?_ ?_ ?_ ?_
      rotate_left 2
      focus (simp only [kG]; exact rfl)
      focus rfl
      focus ((intro wS hS; go_simp) <;> with_reducible rfl)
      try simp only [kP]
      refine keep_pure (o := ?_) (v := ?_) ?_ ?_ ?_ ?_
      rotate_left 2
      focus (simp only [kG]; exact rfl)
      focus rfl
      focus ((intro wS hS; go_simp) <;> with_reducible rfl)
      try simp only [kP]
      refine keep_pure (o := ?_) (v := ?_) ?_ ?_ ?_ ?_
      rotate_left 2
      focus (simp only [kG]; exact rfl)
      focus rfl
      focus (intro wS hS; (refine cu_run_load 69 (.tmp 10) ?_ qk 0 ?_ ((KK i).map (Value.int .u64)) _ (HM.out.k.keeps hS) Try.underlying69 rfl (by rw [List.length_map, lk]; exact sz_cnum)) <;> rfl)
      try simp only [kP]
      refine keep_pure (o := ?_) (v := ?_) ?_ ?_ ?_ ?_
      rotate_left 2
      focus (simp only [kG]; exact rfl)
      focus rfl
      focus ((intro wS hS; go_simp) <;> with_reducible rfl)
      try simp only [kP]
      refine keep_call (o := ?_) (f := ?_) (args := ?_) (v := ?_) ?_ ?_ ?_ ?_ ?_
      rotate_left 4
      focus (simp only [kG]; exact rfl)
      focus rfl
      focus (intro wS; go_simp; refine ⟨?_, ?_⟩ <;> with_reducible rfl)
      focus (intro wS hS; exact HAD.out wS (HM.out.row.keeps hS))
      try simp only [kP]
      refine keep_nil ?_
      intro GG V1 hk1 hG
      clear hG
      simp only [putsA, dstAt, Act.put, ptrV, List.drop_succ_cons, List.drop_zero, List.getElem?_toArray, List.getElem?_cons_succ, List.getElem?_cons_zero, Option.bind_some, List.setIfInBounds_toArray, List.set_cons_zero, List.set_cons_succ]
      have HM := Lib.hid (HM.out.keep hk1)
      clear hk1
      go_upto_region 11 with (refine wpList_store_row rfl 69 (.tmp 10) (.tmp 41) rfl _ 0 rfl ((KK i).map (Value.int .u64)) (K1.map (Value.int .u64)) rfl HM.out.k (by rw [List.length_map, List.length_map, lk, lk1]) (by rw [List.length_map, lk1]; exact sz_cnum) (int_oneCell _) ?_; intro V2 hr2 hc2; have HM2 := Lib.hid (HM.out.putK hr2 hc2 (by omega) (by omega) (by omega) (by omega) (by omega) (by omega)); clear hr2 hc2)
      go_upto_region 12 with (first | (refine wpList_load_at rfl 69 (.tmp 7) rfl _ 0 rfl (D.map (Value.int .u64)) _ HM2.out.d Try.underlying69 rfl (by rw [List.length_map, lD]; exact sz_cnum) ?_) | (refine wpList_load_at rfl 69 (.tmp 9) rfl _ 0 rfl (E.map (Value.int .u64)) _ HM2.out.e Try.underlying69 rfl (by rw [List.length_map, lE]; exact sz_cnum) ?_) | (refine wpList_load_at rfl 69 (.tmp 10) rfl _ 0 rfl (K1.map (Value.int .u64)) _ HM2.out.k Try.underlying69 rfl (by rw [List.length_map, lk1]; exact sz_cnum) ?_) | (go_at_call 59; refine (HSI.out _ HM2.out.row).mono ?_; rintro e V3 ⟨rfl, hk1⟩; have HM3 := Lib.hid (HM2.out.keep hk1); clear hk1) | (refine wpList_store_row rfl 56 (.tmp 11) (.tmp 48) rfl _ 0 rfl ((BB i).map (Value.int .u8)) (B1.map (Value.int .u8)) rfl HM3.out.o (by rw [List.length_map, List.length_map, lb, lb1]) (by rw [List.length_map, lb1]; exact sz_b64) (int_oneCell _) ?_; intro V4 hr2 hc2; have HM4 := Lib.hid (HM3.out.putO hr2 hc2 (by omega) (by omega) (by omega) (by omega) (by omega) (by omega)); clear hr2 hc2))
      clear HM HM2 HM3 HAD HSI
      cases O1 with
      | true =>
        obtain rfl := HRR.out rfl
        have lR := lb1
        have HRO := Lib.hid HM4.out.o; have HRZ := Lib.hid HM4.out.z; have HKW := Lib.hid HM4.out.keeps
        clear HM4 HRR HNX HNO
        go_wp2_with (first | (refine wpList_load_at rfl 56 (.tmp 11) rfl _ 0 rfl (B1.map (Value.int .u8)) _ HRO.out Try.underlying56 rfl (by rw [List.length_map, lR]; exact sz_b64) ?_) | (refine wpList_store_row rfl 56 (.tmp 4) (.tmp 52) rfl _ 0 rfl Zr (B1.map (Value.int .u8)) rfl HRZ.out (by rw [List.length_map, lR, hZr]) (by rw [List.length_map, lR]; exact sz_b64) (int_oneCell _) ?_; intro W9 hr2 hc2; have HN := Lib.hid hr2; have HC := Lib.hid hc2; clear hr2 hc2))
        exact bodyPost_ret (results_cell_tmpB (p := 4) (t := 5) (ty := 56) rfl _ _ (p + 1 + 1) 0 _ _ _ rfl rfl HN.out Try.underlying56 rfl (by rw [List.length_map, lR]; exact sz_b64)) rfl ⟨rfl, nm_keeps_chg HKW.out HC.out (by omega)⟩
      | false =>
        go_wp2
        go_roundw
        case rel => exact ⟨i + 1, by omega, by first | rfl | go_num, by rw [HK1.out, HB1.out]; exact HM4, Lib.hid (HNX.out rfl)⟩
        case measure => simp [intOf] <;> omega
    · obtain rfl : i = 16 := by omega
      obtain rfl := HALL.out HNO.out
      have lR := HLBB.out 16
      have HRO := Lib.hid HM.out.o; have HRZ := Lib.hid HM.out.z; have HKW := Lib.hid HM.out.keeps
      clear HM HNO HRES HALL
      go_wp2_with (first | (refine wpList_load_at rfl 56 (.tmp 11) rfl _ 0 rfl ((BB 16).map (Value.int .u8)) _ HRO.out Try.underlying56 rfl (by rw [List.length_map, lR]; exact sz_b64) ?_) | (refine wpList_store_row rfl 56 (.tmp 4) (.tmp 52) rfl _ 0 rfl Zr ((BB 16).map (Value.int .u8)) rfl HRZ.out (by rw [List.length_map, lR, hZr]) (by rw [List.length_map, lR]; exact sz_b64) (int_oneCell _) ?_; intro W9 hr2 hc2; have HN := Lib.hid hr2; have HC := Lib.hid hc2; clear hr2 hc2))
      exact bodyPost_ret (results_cell_tmpB (p := 4) (t := 5) (ty := 56) rfl _ _ (p + 1 + 1) 0 _ _ _ rfl rfl HN.out Try.underlying56 rfl (by rw [List.length_map, lR]; exact sz_b64)) rfl ⟨rfl, nm_keeps_chg HKW.out HC.out (by omega)⟩
/-- what Sign gives -/
def signV (K M : List Int) : List Int := if keyB (be K) = true then sgN (be K).toNat (be M % NV).toNat 16 (nonceN K M).toNat zeroL64 else zeroL64
theorem signV_len (K M : List Int) : (signV K M).length = 64 := by
  unfold signV
  split
  · exact sgN_len _ _ _ rfl
  · rfl
theorem zeroL64_bytes : Bytes zeroL64 := fun y hy => by
  rw [(List.mem_replicate.1 (show y ∈ List.replicate 64 0 from hy)).2]
  exact ⟨by omega, by omega⟩
theorem signV_bytes (K M : List Int) : Bytes (signV K M) := by
  unfold signV
  split
  · exact sgN_bytes _ _ _ zeroL64_bytes
  · exact zeroL64_bytes
theorem words_one : ((nw 1).map (Value.int .u64)).toArray = #[.int .u64 1, .int .u64 0, .int .u64 0, .int .u64 0] := by
  unfold nw words
  simp [List.range_succ]
set_option maxRecDepth 100000 in
theorem sign_any (K M : List Int) (hK : Bytes K) (hM : Bytes M) (lK : K.length = 32) (lM : M.length = 32) (w : World) :
    Calls Try.prog 23 #[.agg (K.map (Value.int .u8)).toArray, .agg (M.map (Value.int .u8)).toArray] w fun e w' => e = .returned (.tuple #[.agg ((signV K M).map (Value.int .u8)).toArray, .int .i64 (errV (be K))]) ∧ Keeps w w' := by
  have hn := nv_eq
  by_cases hkey : keyB (be K) = true
  · have h1 := key_lt hkey
    obtain ⟨m1, m2⟩ := mod_nat (m := be M)
    have hd : (be K).toNat < nVn := by omega
    have hnon : (nonceN K M).toNat < nVn ∧ (((nonceN K M).toNat : Nat) : Int) = nonceN K M := by
      have h3 := Int.emod_nonneg (be (sha256 (sha256 (K ++ M)))) (show NV ≠ 0 by decide)
      have h4 := Int.emod_lt_of_pos (be (sha256 (sha256 (K ++ M)))) (show 0 < NV by decide)
      unfold nonceN
      exact ⟨by omega, by omega⟩
    have hsv : signV K M = sgN (be K).toNat (be M % NV).toNat 16 (nonceN K M).toNat zeroL64 := by unfold signV; rw [if_pos hkey]
    have herr : errV (be K) = if true = true then 0 else 1 := by unfold errV; rw [if_pos hkey]; rfl
    have hm := be_u256 hM lM
    have hD : words (be K) = nw (be K).toNat := by unfold nw; rw [Int.toNat_of_nonneg (by omega)]
    have hE : words (be M % NV) = nw (be M % NV).toNat := by unfold nw; rw [m1]
    have hN : words (nonceN K M) = nw (nonceN K M).toNat := by unfold nw; rw [hnon.2]
    have hlt : ∀ i, sgK (nonceN K M).toNat i < nVn := fun i => Nat.mod_lt _ n_pos
    rw [hsv, herr]
    refine sign_walk K M (nw (be K).toNat) (words (be M)) (nw (be M % NV).toNat) _ (fun i => match i with | 0 => nw (nonceN K M).toNat | i + 1 => nw (sgK (nonceN K M).toNat i)) (fun i => match i with | 0 => zeroL64 | i + 1 => sgB (be K).toNat (be M % NV).toNat (sgK (nonceN K M).toNat i)) (fun i => match i with | 0 => false | i + 1 => sgOk (be K).toNat (be M % NV).toNat (sgK (nonceN K M).toNat i)) true lK lM (words_length _) (words_length _) (fun i => by cases i <;> exact words_length _) (fun i => by cases i <;> first | rfl | exact sgB_len _ _ _) rfl w
      (fun g W hr => by have := gkey_any g K hK lK W hr; rwa [hkey, hD] at this)
      (.inr ⟨rfl, fun v W hr => cnumber_any v M W hr hM lM, fun g W hr => by rw [← hE]; exact nin_any g _ hm W hr, fun g W hr => by
        have := nonce_any g K M hK hM lK lM W hr
        rwa [hN] at this, fun g i W hr => ?_, fun g i W hr => sig_any g _ _ _ hd m2 (hlt i) W hr, fun i hi hj h => (sgN_at 16 i _ _ hi hj h).symm, fun hj => (sgN_no 15 _ _ hj).symm⟩)
    rw [← words_one]
    cases i with
    | zero => exact nadd_any g _ 1 hnon.1 (by decide) W hr
    | succ i =>
      have := nadd_any g _ 1 (hlt i) (by decide) W hr
      have e : (sgK (nonceN K M).toNat i + 1) % nVn = sgK (nonceN K M).toNat (i + 1) := by
        unfold sgK
        rw [Nat.mod_add_mod]
        congr 1
      rwa [e] at this
  · have hk : keyB (be K) = false := by simpa using hkey
    have hsv : signV K M = zeroL64 := by unfold signV; rw [if_neg hkey]
    have herr : errV (be K) = if false = true then 0 else 1 := by unfold errV; rw [if_neg hkey]; rfl
    rw [hsv, herr]
    exact sign_walk K M (words (be K)) [] (nw 0) _ (fun _ => nw 0) (fun _ => zeroL64) (fun _ => false) false lK lM (words_length _) (words_length _) (fun _ => words_length _) (fun _ => rfl) rfl w
      (fun g W hr => by have := gkey_any g K hK lK W hr; rwa [hk] at this) (.inl ⟨rfl, rfl⟩)
end Go.Proofs.Ytajipagpdphejaa
