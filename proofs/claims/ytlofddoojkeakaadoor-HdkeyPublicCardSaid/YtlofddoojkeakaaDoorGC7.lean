/- Both AddKey. No condition. | The reference's AddKey. No condition. | The program's AddPublic. No condition. -/
import Derived.Test.YtlofddoojkeakaaDoorGC6
import Derived.Test.YtlofddoojkeakaaDoorGB2
namespace Go.Proofs.YtlofddoojkeakaaDoor
set_option linter.unusedVariables false
set_option linter.unusedSimpArgs false
open Go Go.RowKit Cv

def zeroL32 : List Int := List.replicate 32 0
/-- a key and a number: the sum's bytes, and the error -/
def addKV (x t : Int) : List Int × Int := if keyB x = true ∧ t < NV then (if (x + t) % NV = 0 then (zeroL32, 7) else (toB 32 ((x + t) % NV), 0)) else (zeroL32, 1)
theorem addKV_len (x t : Int) : (addKV x t).1.length = 32 := by
  unfold addKV
  split
  · split
    · rfl
    · exact toB_length _ _
  · rfl
theorem zeroL32_bytes : Bytes zeroL32 := fun y hy => by
  rw [(List.mem_replicate.1 (show y ∈ List.replicate 32 0 from hy)).2]
  exact ⟨by omega, by omega⟩
theorem addKV_bytes (x t : Int) : Bytes (addKV x t).1 := by
  unfold addKV
  split
  · split
    · exact zeroL32_bytes
    · exact toB_bytes _ _
  · exact zeroL32_bytes
/-- the cases of an addition of keys -/
theorem addKV_cases (x t : Int) : (keyB x = false ∧ addKV x t = (zeroL32, 1)) ∨ (keyB x = true ∧ ¬ t < NV ∧ addKV x t = (zeroL32, 1)) ∨ (keyB x = true ∧ t < NV ∧ (x + t) % NV = 0 ∧ addKV x t = (zeroL32, 7)) ∨ (keyB x = true ∧ t < NV ∧ ¬ (x + t) % NV = 0 ∧ addKV x t = (toB 32 ((x + t) % NV), 0)) := by
  unfold addKV
  by_cases h1 : keyB x = true
  · by_cases h2 : t < NV
    · by_cases h3 : (x + t) % NV = 0
      · exact .inr (.inr (.inl ⟨h1, h2, h3, by rw [if_pos ⟨h1, h2⟩, if_pos h3]⟩))
      · exact .inr (.inr (.inr ⟨h1, h2, h3, by rw [if_pos ⟨h1, h2⟩, if_neg h3]⟩))
    · exact .inr (.inl ⟨h1, h2, by rw [if_neg (fun h => h2 h.2)]⟩)
  · exact .inl ⟨by simpa using h1, by rw [if_neg (fun h => h1 h.1)]⟩
set_option maxRecDepth 100000 in
set_option maxHeartbeats 8000000 in
theorem addkey_walk (K B X T S BS RES : List Int) (kb lt z : Bool) (er : Int) (lK : K.length = 32) (lB : B.length = 32) (lX : X.length = 4) (lT : T.length = 4) (lS : S.length = 4) (lR : RES.length = 32) (w : World)
    (hKey : ∀ g W, Row W g 0 gCells → Calls Tryd.prog 31 #[.pointer (some ⟨g, 0, none⟩), .agg (K.map (Value.int .u8)).toArray] W fun e w' => e = .returned (.tuple #[.agg (X.map (Value.int .u64)).toArray, .bool kb]) ∧ Keeps W w')
    (hNum : ∀ v W, Rd W 1 v 32 (B.map (Value.int .u8)) → Calls Tryd.prog 35 #[v] W fun e w' => e = .returned (.agg (T.map (Value.int .u64)).toArray) ∧ Keeps W w')
    (hBel : ∀ g W, Row W g 0 gCells → Calls Tryd.prog 36 #[.pointer (some ⟨g, 7, none⟩), .agg (T.map (Value.int .u64)).toArray] W fun e w' => e = .returned (.bool lt) ∧ Keeps W w')
    (hcase : (kb = false ∧ RES = zeroL32 ∧ er = 1) ∨ (kb = true ∧ lt = false ∧ RES = zeroL32 ∧ er = 1) ∨ (kb = true ∧ lt = true ∧
      (∀ g W, Row W g 0 gCells → Calls Tryd.prog 37 #[.pointer (some ⟨g, 7, none⟩), .agg (X.map (Value.int .u64)).toArray, .agg (T.map (Value.int .u64)).toArray] W fun e w' => e = .returned (.agg (S.map (Value.int .u64)).toArray) ∧ Keeps W w') ∧
      (∀ W, Calls Tryd.prog 38 #[.agg (S.map (Value.int .u64)).toArray] W fun e w' => e = .returned (.bool z) ∧ Keeps W w') ∧
      ((z = true ∧ RES = zeroL32 ∧ er = 7) ∨ (z = false ∧ RES = BS ∧ er = 0 ∧ ∀ W, Calls Tryd.prog 39 #[.agg (S.map (Value.int .u64)).toArray] W fun e w' => e = .returned (.agg (BS.map (Value.int .u8)).toArray) ∧ Keeps W w')))) :
    Calls Tryd.prog 24 #[.agg (K.map (Value.int .u8)).toArray, .agg (B.map (Value.int .u8)).toArray] w fun e w' => e = .returned (.tuple #[.agg (RES.map (Value.int .u8)).toArray, .int .i64 er]) ∧ Keeps w w' := by
  have HKEY := Lib.hid hKey; have HNUM := Lib.hid hNum; have HBEL := Lib.hid hBel; have HCASE := Lib.hid hcase; have HCV := Lib.hid curve_any
  clear hKey hNum hBel hcase
  go_enter Tryd.func24, Tryd.ntmps24
  go_upto_region 1 with (fail)
  refine wp_rows3 (fun W hk hra hrb hrc hs => ?_)
  obtain ⟨p, hp⟩ : ∃ p, p = w.heap.size := ⟨_, rfl⟩
  rw [← hp] at hra hrb hrc hs ⊢
  have hkp : w.heap.size ≤ p := by omega
  obtain ⟨Zr, hZr, hrz⟩ : ∃ Zr : List Value, Zr.length = 32 ∧ Row W (p + 1 + 1) 0 Zr := ⟨_, rfl, hrc⟩
  have HRK := Lib.hid (show Row W p 0 (K.map (Value.int .u8)) from hra); have HRB := Lib.hid (show Row W (p + 1) 0 (B.map (Value.int .u8)) from hrb); have HKW := Lib.hid hk; have HRres := Lib.hid hrz
  have hpW : p + 1 < W.heap.size := by omega
  clear hp hk hra hrb hrc hrz hs
  go_upto_region 2 with (go_at_call 30; refine (HCV.out _).mono ?_; rintro e W1 ⟨g, rfl, hk1, hgg, hrow⟩; have HK1 := Lib.hid hk1; have HROW := Lib.hid hrow; clear hk1 hrow)
  have HRK := Lib.hid (HRK.out.keeps HK1.out)
  go_upto_region 3 with (first | ((with_reducible refine gate_load 24 (.tmp 2) ?_); refine wl HRK.out lK (h := ?_)) | (go_at_call 31; refine (HKEY.out g _ HROW.out).mono ?_; rintro e W2 ⟨rfl, hk2⟩; have HK2 := Lib.hid hk2; clear hk2) | ((with_reducible refine gate_store 70 (.tmp 7) (.tmp 16) ?_); refine ws (g := W2.heap.size) (olds := zeros4) (Row.new _ _ _ rfl) lX rfl (h := ?_); intro W3 hr2 hc2; have HRX := Lib.hid hr2; have HK3 := Lib.hid (nm_keeps_chg (nm_keeps_alloc HK2.out _) hc2 HK2.out.size); clear hr2 hc2))
  generalize W2.heap.size = q at *
  have HROW := Lib.hid (HROW.out.keeps HK3.out)
  have HKA := Lib.hid (HK1.out.trans HK3.out)
  have HRres := Lib.hid (HRres.out.keeps HKA.out); have HRB := Lib.hid (HRB.out.keeps HKA.out)
  have HKW := Lib.hid (HKW.out.trans HKA.out)
  have hpW3 : p + 1 < W3.heap.size := Nat.lt_of_lt_of_le hpW HKA.out.size
  clear HKA HK3 HK2 HK1
  go_upto_region 4 with (first | (go_at_call 35; refine (HNUM.out _ _ (Rd.of_row HRB.out (by simp [lB]) hpW3 (by omega) (by unfold maxLen; omega))).mono ?_; rintro e W4 ⟨rfl, hk2⟩; have HK4 := Lib.hid hk2; clear hk2) | ((with_reducible refine gate_store 70 (.tmp 9) (.tmp 19) ?_); refine ws (g := W4.heap.size) (olds := zeros4) (Row.new _ _ _ rfl) lT rfl (h := ?_); intro W5 hr2 hc2; have HRT := Lib.hid hr2; have HK5 := Lib.hid (nm_keeps_chg (nm_keeps_alloc HK4.out _) hc2 HK4.out.size); clear hr2 hc2))
  generalize W4.heap.size = r at *
  have HROW := Lib.hid (HROW.out.keeps HK5.out)
  have HRres := Lib.hid (HRres.out.keeps HK5.out); have HRX := Lib.hid (HRX.out.keeps HK5.out)
  have HKW := Lib.hid (HKW.out.trans HK5.out)
  clear HK5 HK4 HRB HRK
  rcases HCASE.out with ⟨rfl, rfl, rfl⟩ | ⟨rfl, rfl, rfl, rfl⟩ | ⟨rfl, rfl, hAdd, hZero, hc2⟩
  · refine wp_region_keep 9 [] [0, 1, 2, 3, 4, 5, 6, 7, 8] (fun _ => []) (by kernel_rfl) (by kernel_rfl) (by intro i hi; cases hi) ?_
    iterate 3 refine kp (h := ?_)
    refine ks (h := ?_)
    refine ks (h := ?_)
    refine ks (h := ?_)
    refine ks (h := ?_)
    refine ks (h := ?_)
    refine ks (h := ?_)
    refine keep_nil ?_
    intro GG V4 hk1 hG
    clear hG
    simp only [putsA, dstAt, ptrV, kD, kG, kP, Option.bind_some]
    have HRres := Lib.hid (HRres.out.keeps hk1)
    have HKW := Lib.hid (HKW.out.trans hk1)
    clear hk1
    go_wp2_with ((with_reducible refine gate_store 24 (.tmp 4) (.tmp 30) ?_); refine wpList_store_row rfl 24 (.tmp 4) (.tmp 30) rfl _ 0 rfl Zr (zeroL32.map (Value.int .u8)) rfl HRres.out (by rw [hZr]; rfl) sz_b32' (int_oneCell _) ?_; intro W8 hr2 hc2; have HN := Lib.hid hr2; have HC := Lib.hid hc2; clear hr2 hc2)
    exact bodyPost_ret (results_cell_tmpB (p := 4) (t := 5) (ty := 24) rfl _ _ (p + 1 + 1) 0 _ _ _ rfl rfl HN.out Tryd.underlying24 rfl sz_b32') rfl ⟨rfl, nm_keeps_chg HKW.out HC.out (by omega)⟩
  · refine wp_region_keep 9 [] [0, 1, 2, 3, 4, 5, 6, 7, 8] (fun _ => []) (by kernel_rfl) (by kernel_rfl) (by intro i hi; cases hi) ?_
    iterate 6 refine kp (h := ?_)
    refine kl (fun wS hS => (HRT.out.keeps hS)) lT (h := ?_)
    refine kc (hc := by exact fun wS hS => HBEL.out g wS (HROW.out.keeps hS)) (h := ?_)
    refine kp (h := ?_)
    refine keep_nil ?_
    intro GG V4 hk1 hG
    clear hG
    simp only [putsA, dstAt, ptrV, kD, kG, kP, Option.bind_some]
    have HRres := Lib.hid (HRres.out.keeps hk1)
    have HKW := Lib.hid (HKW.out.trans hk1)
    clear hk1
    go_wp2_with ((with_reducible refine gate_store 24 (.tmp 4) (.tmp 30) ?_); refine wpList_store_row rfl 24 (.tmp 4) (.tmp 30) rfl _ 0 rfl Zr (zeroL32.map (Value.int .u8)) rfl HRres.out (by rw [hZr]; rfl) sz_b32' (int_oneCell _) ?_; intro W8 hr2 hc2; have HN := Lib.hid hr2; have HC := Lib.hid hc2; clear hr2 hc2)
    exact bodyPost_ret (results_cell_tmpB (p := 4) (t := 5) (ty := 24) rfl _ _ (p + 1 + 1) 0 _ _ _ rfl rfl HN.out Tryd.underlying24 rfl sz_b32') rfl ⟨rfl, nm_keeps_chg HKW.out HC.out (by omega)⟩
  · have HADD := Lib.hid hAdd; have HZO := Lib.hid hZero; have HC2 := Lib.hid hc2
    clear hAdd hZero hc2 HCASE
    refine wp_region_keep 9 [] [0, 1, 2, 3, 4, 5, 6, 7, 8] (fun _ => []) (by kernel_rfl) (by kernel_rfl) (by intro i hi; cases hi) ?_
    iterate 6 refine kp (h := ?_)
    refine kl (fun wS hS => (HRT.out.keeps hS)) lT (h := ?_)
    refine kc (hc := by exact fun wS hS => HBEL.out g wS (HROW.out.keeps hS)) (h := ?_)
    refine kp (h := ?_)
    refine keep_nil ?_
    intro GG V4 hk1 hG
    clear hG
    simp only [putsA, dstAt, ptrV, kD, kG, kP, Option.bind_some]
    have HRres := Lib.hid (HRres.out.keeps hk1); have HROW := Lib.hid (HROW.out.keeps hk1); have HRX := Lib.hid (HRX.out.keeps hk1); have HRT := Lib.hid (HRT.out.keeps hk1)
    have HKW := Lib.hid (HKW.out.trans hk1)
    clear hk1
    go_upto_region 6 with (fail)
    refine wp_region_keep 7 [6] [0, 1, 2, 3, 4, 5] (fun _ => zeros4) (by kernel_rfl) (by kernel_rfl) (by intro i hi; simp only [List.mem_cons, List.not_mem_nil, or_false] at hi; (first | (rcases hi with rfl | rfl) | subst hi) <;> exact ⟨_, rfl, alloc_num rfl rfl⟩) ?_
    iterate 3 refine kp (h := ?_)
    refine kl (fun wS hS => (HRX.out.keeps hS)) lX (h := ?_)
    refine kl (fun wS hS => (HRT.out.keeps hS)) lT (h := ?_)
    refine kc (hc := by exact fun wS hS => HADD.out g wS (HROW.out.keeps hS)) (h := ?_)
    refine keep_nil ?_
    intro GG V5 hk1 hG
    obtain ⟨ha6, hz6, hd6⟩ := hG 6 (by simp)
    clear hd6
    simp only [putsA, dstAt, ptrV, kD, kG, kP, Option.bind_some]
    generalize GG 6 = g3 at *
    clear hG
    have HZ6 := Lib.hid hz6
    have HV1 := Lib.hid hk1; clear hk1 hz6
    go_upto_region 7 with ((with_reducible refine gate_store 70 (.tmp 10) (.tmp 36) ?_); refine ws (g := _) (olds := zeros4) HZ6.out lS rfl (h := ?_); intro W6 hr2 hc2; have HRS := Lib.hid hr2; have HK6 := Lib.hid (nm_keeps_chg HV1.out hc2 ha6); clear hr2 hc2)
    have HRres := Lib.hid (HRres.out.keeps HK6.out)
    have HKW := Lib.hid (HKW.out.trans HK6.out)
    rcases HC2.out with ⟨rfl, rfl, rfl⟩ | ⟨rfl, rfl, rfl, hByt⟩
    · go_wp2_with (first | ((with_reducible refine gate_load 70 (.tmp 10) ?_); refine wl HRS.out lS (h := ?_)) | (go_at_call 38; refine (HZO.out _).mono ?_; rintro e W7 ⟨rfl, hk1⟩; have HK7 := Lib.hid hk1; clear hk1) | ((with_reducible refine gate_store 24 (.tmp 4) (.tmp 39) ?_); refine wpList_store_row rfl 24 (.tmp 4) (.tmp 39) rfl _ 0 rfl Zr (zeroL32.map (Value.int .u8)) rfl (HRres.out.keeps HK7.out) (by rw [hZr]; rfl) sz_b32' (int_oneCell _) ?_; intro W8 hr2 hc2; have HN := Lib.hid hr2; have HC := Lib.hid hc2; clear hr2 hc2))
      exact bodyPost_ret (results_cell_tmpB (p := 4) (t := 5) (ty := 24) rfl _ _ (p + 1 + 1) 0 _ _ _ rfl rfl HN.out Tryd.underlying24 rfl sz_b32') rfl ⟨rfl, nm_keeps_chg (HKW.out.trans HK7.out) HC.out (by omega)⟩
    · have HBYT := Lib.hid hByt
      clear hByt HC2
      go_upto_region 9 with (first | ((with_reducible refine gate_load 70 (.tmp 10) ?_); refine wl HRS.out lS (h := ?_)) | (go_at_call 38; refine (HZO.out _).mono ?_; rintro e W7 ⟨rfl, hk1⟩; have HK7 := Lib.hid hk1; clear hk1))
      have HRres := Lib.hid (HRres.out.keeps HK7.out); have HRS := Lib.hid (HRS.out.keeps HK7.out)
      have HKW := Lib.hid (HKW.out.trans HK7.out)
      go_wp2_with (first | ((with_reducible refine gate_load 70 (.tmp 10) ?_); refine wl HRS.out lS (h := ?_)) | (go_at_call 39; refine (HBYT.out _).mono ?_; rintro e W8 ⟨rfl, hk1⟩; have HK8 := Lib.hid hk1; clear hk1) | ((with_reducible refine gate_store 24 (.tmp 4) (.tmp 41) ?_); refine ws (HRres.out.keeps HK8.out) lR (by rw [hZr]) (h := ?_); intro W9 hr2 hc2; have HN := Lib.hid hr2; have HC := Lib.hid hc2; clear hr2 hc2))
      exact bodyPost_ret (results_cell_tmpB (p := 4) (t := 5) (ty := 24) rfl _ _ (p + 1 + 1) 0 _ _ _ rfl rfl HN.out Tryd.underlying24 rfl (by rw [List.length_map, lR]; exact sz_b32')) rfl ⟨rfl, nm_keeps_chg (HKW.out.trans HK8.out) HC.out (by omega)⟩
theorem addkey_any (K B : List Int) (hK : Bytes K) (hB : Bytes B) (lK : K.length = 32) (lB : B.length = 32) (w : World) :
    Calls Tryd.prog 24 #[.agg (K.map (Value.int .u8)).toArray, .agg (B.map (Value.int .u8)).toArray] w fun e w' => e = .returned (.tuple #[.agg ((addKV (be K) (be B)).1.map (Value.int .u8)).toArray, .int .i64 (addKV (be K) (be B)).2]) ∧ Keeps w w' := by
  have hx := be_u256 hK lK
  have ht := be_u256 hB lB
  have hn : 0 < NV := by decide
  refine addkey_walk K B (words (be K)) (words (be B)) (words ((be K + be B) % NV)) (toB 32 ((be K + be B) % NV)) _ (keyB (be K)) (decide (be B < NV)) (decide ((be K + be B) % NV = 0)) _ lK lB (words_length _) (words_length _) (words_length _) (addKV_len _ _) w
    (fun g W hr => gkey_any g K hK lK W hr) (fun v W hr => cnumber_any v B W hr hB lB) (fun g W hr => below_any g 7 NV (be B) NV_u256 ht W (gCells_n hr)) ?_
  have hA : keyB (be K) = true → be B < NV → ∀ g W, Row W g 0 gCells → Calls Tryd.prog 37 #[.pointer (some ⟨g, 7, none⟩), .agg ((words (be K)).map (Value.int .u64)).toArray, .agg ((words (be B)).map (Value.int .u64)).toArray] W fun e w' => e = .returned (.agg ((words ((be K + be B) % NV)).map (Value.int .u64)).toArray) ∧ Keeps W w' := fun h1 h2 g W hr =>
    add_any g 7 NV (be K) (be B) NV_u256 ⟨hx.1, (key_lt h1).2⟩ ⟨ht.1, h2⟩ W (gCells_n hr)
  have hU : U256 ((be K + be B) % NV) := ⟨Int.emod_nonneg _ (by omega), Int.lt_trans (Int.emod_lt_of_pos _ hn) NV_u256.2⟩
  rcases addKV_cases (be K) (be B) with ⟨h1, h2⟩ | ⟨h1, h2, h3⟩ | ⟨h1, h2, h3, h4⟩ | ⟨h1, h2, h3, h4⟩
  · exact .inl ⟨h1, by rw [h2], by rw [h2]⟩
  · exact .inr (.inl ⟨h1, decide_eq_false h2, by rw [h3], by rw [h3]⟩)
  · exact .inr (.inr ⟨h1, decide_eq_true h2, hA h1 h2, fun W => czero_any _ hU W, .inl ⟨decide_eq_true h3, by rw [h4], by rw [h4]⟩⟩)
  · exact .inr (.inr ⟨h1, decide_eq_true h2, hA h1 h2, fun W => czero_any _ hU W, .inr ⟨decide_eq_false h3, by rw [h4], by rw [h4], fun W => cbytes_any _ W⟩⟩)
def zeros12 : List Value := [.int .u64 0, .int .u64 0, .int .u64 0, .int .u64 0, .int .u64 0, .int .u64 0, .int .u64 0, .int .u64 0, .int .u64 0, .int .u64 0, .int .u64 0, .int .u64 0]
theorem alloc_cpt {o : Oper} (hg : o.guard = none) (ho : o.op = .alloc 76) : AllocsAs Tryd.prog o zeros12 := ⟨hg, 76, fun a w => by
  unfold execOp
  simp only [ho]
  go_simp
  exact ⟨rfl, rfl⟩⟩
/-- a point and a number's: its bytes, and the error -/
def addPV (pub : List Int) (t : Int) : List Int × Int := if t < NV then (match unpN pub with
  | none => (zeroL33, 3)
  | some a => if (addJ a (timesJ t.toNat gJ 256)).z = 0 then (zeroL33, 7) else (pkB (flatJ (addJ a (timesJ t.toNat gJ 256))).1 (flatJ (addJ a (timesJ t.toNat gJ 256))).2, 0)) else (zeroL33, 1)
theorem zeroL33_len : zeroL33.length = 33 := rfl
theorem zeroL33_bytes : Bytes zeroL33 := fun y hy => by
  rw [(List.mem_replicate.1 (show y ∈ List.replicate 33 0 from hy)).2]
  exact ⟨by omega, by omega⟩
theorem addPV_cases (pub : List Int) (t : Int) : (¬ t < NV ∧ addPV pub t = (zeroL33, 1)) ∨ (t < NV ∧ unpN pub = none ∧ addPV pub t = (zeroL33, 3)) ∨
    (t < NV ∧ ∃ a, unpN pub = some a ∧ (((addJ a (timesJ t.toNat gJ 256)).z = 0 ∧ addPV pub t = (zeroL33, 7)) ∨ (¬ (addJ a (timesJ t.toNat gJ 256)).z = 0 ∧ addPV pub t = (pkB (flatJ (addJ a (timesJ t.toNat gJ 256))).1 (flatJ (addJ a (timesJ t.toNat gJ 256))).2, 0)))) := by
  unfold addPV
  by_cases h1 : t < NV
  · rw [if_pos h1]
    cases hu : unpN pub with
    | none => exact .inr (.inl ⟨h1, rfl, rfl⟩)
    | some a =>
      refine .inr (.inr ⟨h1, a, rfl, ?_⟩)
      dsimp only
      by_cases hz : (addJ a (timesJ t.toNat gJ 256)).z = 0
      · exact .inl ⟨hz, by rw [if_pos hz]⟩
      · exact .inr ⟨hz, by rw [if_neg hz]⟩
  · exact .inl ⟨h1, by rw [if_neg h1]⟩
theorem addPV_len (pub : List Int) (t : Int) : (addPV pub t).1.length = 33 := by
  rcases addPV_cases pub t with ⟨_, h⟩ | ⟨_, _, h⟩ | ⟨_, a, _, ⟨_, h⟩ | ⟨_, h⟩⟩ <;> rw [h]
  · exact zeroL33_len
  · exact zeroL33_len
  · exact zeroL33_len
  · exact pkB_len _ _
theorem addPV_bytes (pub : List Int) (t : Int) : Bytes (addPV pub t).1 := by
  rcases addPV_cases pub t with ⟨_, h⟩ | ⟨_, _, h⟩ | ⟨_, a, _, ⟨_, h⟩ | ⟨_, h⟩⟩ <;> rw [h]
  · exact zeroL33_bytes
  · exact zeroL33_bytes
  · exact zeroL33_bytes
  · exact pkB_bytes _ _
set_option maxRecDepth 100000 in
set_option maxHeartbeats 8000000 in
theorem addpub_walk (PB B T UP GJ TM SM RES : List Int) (lt ub z : Bool) (er : Int) (lP : PB.length = 33) (lB : B.length = 32) (lT : T.length = 4) (lU : UP.length = 12) (lS : SM.length = 12) (lR : RES.length = 33) (w : World)
    (hNum : ∀ v W, Rd W 1 v 32 (B.map (Value.int .u8)) → Calls Tryd.prog 35 #[v] W fun e w' => e = .returned (.agg (T.map (Value.int .u64)).toArray) ∧ Keeps W w')
    (hBel : ∀ g W, Row W g 0 gCells → Calls Tryd.prog 36 #[.pointer (some ⟨g, 7, none⟩), .agg (T.map (Value.int .u64)).toArray] W fun e w' => e = .returned (.bool lt) ∧ Keeps W w')
    (hUnp : ∀ g v W, Row W g 0 gCells → Rd W 1 v 33 (PB.map (Value.int .u8)) → Calls Tryd.prog 32 #[.pointer (some ⟨g, 0, none⟩), v] W fun e w' => e = .returned (.tuple #[.agg (UP.map (Value.int .u64)).toArray, .bool ub]) ∧ Keeps W w')
    (hcase : (lt = false ∧ RES = zeroL33 ∧ er = 1) ∨ (lt = true ∧ ub = false ∧ RES = zeroL33 ∧ er = 3) ∨ (lt = true ∧ ub = true ∧
      (∀ g W, Row W g 0 gCells → Calls Tryd.prog 42 #[.pointer (some ⟨g, 0, none⟩)] W fun e w' => e = .returned (.agg (GJ.map (Value.int .u64)).toArray) ∧ Keeps W w') ∧
      (∀ g W, Row W g 0 gCells → Calls Tryd.prog 41 #[.pointer (some ⟨g, 0, none⟩), .agg (T.map (Value.int .u64)).toArray, .agg (GJ.map (Value.int .u64)).toArray] W fun e w' => e = .returned (.agg (TM.map (Value.int .u64)).toArray) ∧ Keeps W w') ∧
      (∀ g W, Row W g 0 gCells → Calls Tryd.prog 40 #[.pointer (some ⟨g, 0, none⟩), .agg (UP.map (Value.int .u64)).toArray, .agg (TM.map (Value.int .u64)).toArray] W fun e w' => e = .returned (.agg (SM.map (Value.int .u64)).toArray) ∧ Keeps W w') ∧
      (∀ g W, Row W g 0 (SM.map (Value.int .u64)) → Calls Tryd.prog 43 #[.pointer (some ⟨g, 0, none⟩)] W fun e w' => e = .returned (.bool z) ∧ Keeps W w') ∧
      ((z = true ∧ RES = zeroL33 ∧ er = 7) ∨ (z = false ∧ er = 0 ∧ ∀ g W, Row W g 0 gCells → Calls Tryd.prog 44 #[.pointer (some ⟨g, 0, none⟩), .agg (SM.map (Value.int .u64)).toArray] W fun e w' => e = .returned (.agg (RES.map (Value.int .u8)).toArray) ∧ Keeps W w')))) :
    Calls Tryd.prog 25 #[.agg (PB.map (Value.int .u8)).toArray, .agg (B.map (Value.int .u8)).toArray] w fun e w' => e = .returned (.tuple #[.agg (RES.map (Value.int .u8)).toArray, .int .i64 er]) ∧ Keeps w w' := by
  have HNUM := Lib.hid hNum; have HBEL := Lib.hid hBel; have HUNP := Lib.hid hUnp; have HCASE := Lib.hid hcase; have HCV := Lib.hid curve_any
  clear hNum hBel hUnp hcase
  go_enter Tryd.func25, Tryd.ntmps25
  go_upto_region 1 with (fail)
  refine wp_rows3 (fun W hk hra hrb hrc hs => ?_)
  obtain ⟨p, hp⟩ : ∃ p, p = w.heap.size := ⟨_, rfl⟩
  rw [← hp] at hra hrb hrc hs ⊢
  have hkp : w.heap.size ≤ p := by omega
  obtain ⟨Zr, hZr, hrz⟩ : ∃ Zr : List Value, Zr.length = 33 ∧ Row W (p + 1 + 1) 0 Zr := ⟨_, rfl, hrc⟩
  have HRP := Lib.hid (show Row W p 0 (PB.map (Value.int .u8)) from hra); have HRB := Lib.hid (show Row W (p + 1) 0 (B.map (Value.int .u8)) from hrb); have HKW := Lib.hid hk; have HRres := Lib.hid hrz
  have hpW : p + 1 < W.heap.size := by omega
  clear hp hk hra hrb hrc hrz hs
  go_upto_region 2 with (go_at_call 30; refine (HCV.out _).mono ?_; rintro e W1 ⟨g, rfl, hk1, hgg, hrow⟩; have HK1 := Lib.hid hk1; have HROW := Lib.hid hrow; clear hk1 hrow)
  have HRP := Lib.hid (HRP.out.keeps HK1.out); have HRB := Lib.hid (HRB.out.keeps HK1.out)
  have HRres := Lib.hid (HRres.out.keeps HK1.out)
  have HKW := Lib.hid (HKW.out.trans HK1.out)
  have hpW1 : p + 1 < W1.heap.size := Nat.lt_of_lt_of_le hpW HK1.out.size
  clear HK1
  go_upto_region 3 with (first | (go_at_call 35; refine (HNUM.out _ _ (Rd.of_row HRB.out (by simp [lB]) hpW1 (by omega) (by unfold maxLen; omega))).mono ?_; rintro e W4 ⟨rfl, hk2⟩; have HK4 := Lib.hid hk2; clear hk2) | (refine ws (g := W4.heap.size) (olds := zeros4) (Row.new _ _ _ rfl) lT rfl (h := ?_); intro W5 hr2 hc2; have HRT := Lib.hid hr2; have HK5 := Lib.hid (nm_keeps_chg (nm_keeps_alloc HK4.out _) hc2 HK4.out.size); clear hr2 hc2))
  generalize W4.heap.size = r at *
  have HROW := Lib.hid (HROW.out.keeps HK5.out)
  have HRres := Lib.hid (HRres.out.keeps HK5.out); have HRP := Lib.hid (HRP.out.keeps HK5.out)
  have HKW := Lib.hid (HKW.out.trans HK5.out)
  have hpW5 : p + 1 < W5.heap.size := Nat.lt_of_lt_of_le hpW1 HK5.out.size
  clear HK5 HK4 HRB
  refine wp_region_keep 5 [] [0, 1, 2, 3, 4] (fun _ => []) (by kernel_rfl) (by kernel_rfl) (by intro i hi; cases hi) ?_
  iterate 3 refine kp (h := ?_)
  refine kl (fun wS hS => (HRT.out.keeps hS)) lT (h := ?_)
  refine kc (hc := by exact fun wS hS => HBEL.out g wS (HROW.out.keeps hS)) (h := ?_)
  refine keep_nil ?_
  intro GG V4 hk1 hG
  clear hG
  simp only [putsA, dstAt, ptrV, kD, kG, kP, Option.bind_some]
  have HROW := Lib.hid (HROW.out.keeps hk1)
  have HRres := Lib.hid (HRres.out.keeps hk1); have HRP := Lib.hid (HRP.out.keeps hk1); have HRT := Lib.hid (HRT.out.keeps hk1)
  have HKW := Lib.hid (HKW.out.trans hk1)
  have hpV4 : p + 1 < V4.heap.size := Nat.lt_of_lt_of_le hpW5 hk1.size
  clear hk1
  rcases HCASE.out with ⟨rfl, rfl, rfl⟩ | hrest
  · go_wp2_with (refine wpList_store_row rfl 25 (.tmp 4) (.tmp 20) rfl _ 0 rfl Zr (zeroL33.map (Value.int .u8)) rfl HRres.out (by rw [hZr]; rfl) sz_b33 (int_oneCell _) ?_; intro W8 hr2 hc2; have HN := Lib.hid hr2; have HC := Lib.hid hc2; clear hr2 hc2)
    exact bodyPost_ret (results_cell_tmpB (p := 4) (t := 5) (ty := 25) rfl _ _ (p + 1 + 1) 0 _ _ _ rfl rfl HN.out Tryd.underlying25 rfl sz_b33) rfl ⟨rfl, nm_keeps_chg HKW.out HC.out (by omega)⟩
  · obtain rfl : lt = true := by rcases hrest with h | h <;> exact h.1
    have HREST := Lib.hid hrest
    clear hrest HCASE
    go_upto_region 6 with (first | (go_at_call 32; refine (HUNP.out g _ _ HROW.out (Rd.of_row HRP.out (by simp [lP]) (by omega) (by omega) (by unfold maxLen; omega))).mono ?_; rintro e W6 ⟨rfl, hk2⟩; have HK6 := Lib.hid hk2; clear hk2) | (refine ws (g := W6.heap.size) (olds := zeros12) (Row.new _ _ _ rfl) lU rfl (h := ?_); intro W7 hr2 hc2; have HRU := Lib.hid hr2; have HK7 := Lib.hid (nm_keeps_chg (nm_keeps_alloc HK6.out _) hc2 HK6.out.size); clear hr2 hc2))
    generalize W6.heap.size = u at *
    have HROW := Lib.hid (HROW.out.keeps HK7.out)
    have HRres := Lib.hid (HRres.out.keeps HK7.out); have HRT := Lib.hid (HRT.out.keeps HK7.out)
    have HKW := Lib.hid (HKW.out.trans HK7.out)
    clear HK7 HK6 HRP
    rcases HREST.out with ⟨_, rfl, rfl, rfl⟩ | ⟨_, rfl, hBase, hTim, hAdd, hInf, hc2⟩
    · go_wp2_with (refine wpList_store_row rfl 25 (.tmp 4) (.tmp 29) rfl _ 0 rfl Zr (zeroL33.map (Value.int .u8)) rfl HRres.out (by rw [hZr]; rfl) sz_b33 (int_oneCell _) ?_; intro W8 hr2 hc2; have HN := Lib.hid hr2; have HC := Lib.hid hc2; clear hr2 hc2)
      exact bodyPost_ret (results_cell_tmpB (p := 4) (t := 5) (ty := 25) rfl _ _ (p + 1 + 1) 0 _ _ _ rfl rfl HN.out Tryd.underlying25 rfl sz_b33) rfl ⟨rfl, nm_keeps_chg HKW.out HC.out (by omega)⟩
    · have HBA := Lib.hid hBase; have HTI := Lib.hid hTim; have HAD := Lib.hid hAdd; have HIN := Lib.hid hInf; have HC2 := Lib.hid hc2
      clear hBase hTim hAdd hInf hc2 HREST
      go_upto_region 8 with (fail)
      refine wp_region_keep 9 [8] [0, 1, 2, 3, 4, 5, 6, 7] (fun _ => zeros12) (by kernel_rfl) (by kernel_rfl) (by intro i hi; simp only [List.mem_cons, List.not_mem_nil, or_false] at hi; (first | (rcases hi with rfl | rfl) | subst hi) <;> exact ⟨_, rfl, alloc_cpt rfl rfl⟩) ?_
      refine kp (h := ?_)
      refine kl (fun wS hS => (HRU.out.keeps hS)) lU (h := ?_)
      refine kp (h := ?_)
      refine kl (fun wS hS => (HRT.out.keeps hS)) lT (h := ?_)
      refine kp (h := ?_)
      refine kc (hc := by exact fun wS hS => HBA.out g wS (HROW.out.keeps hS)) (h := ?_)
      refine kc (hc := by exact fun wS hS => HTI.out g wS (HROW.out.keeps hS)) (h := ?_)
      refine kc (hc := by exact fun wS hS => HAD.out g wS (HROW.out.keeps hS)) (h := ?_)
      refine keep_nil ?_
      intro GG V5 hk1 hG
      obtain ⟨ha6, hz6, hd6⟩ := hG 8 (by simp)
      clear hd6
      simp only [putsA, dstAt, ptrV, kD, kG, kP, Option.bind_some]
      generalize GG 8 = g3 at *
      clear hG
      have HZ6 := Lib.hid hz6
      have HV1 := Lib.hid hk1; clear hk1 hz6
      go_upto_region 9 with (refine ws (g := _) (olds := zeros12) HZ6.out lS rfl (h := ?_); intro W6 hr2 hc2; have HRS := Lib.hid hr2; have HK6 := Lib.hid (nm_keeps_chg HV1.out hc2 ha6); clear hr2 hc2)
      have HRres := Lib.hid (HRres.out.keeps HK6.out); have HROW := Lib.hid (HROW.out.keeps HK6.out)
      have HKW := Lib.hid (HKW.out.trans HK6.out)
      rcases HC2.out with ⟨rfl, rfl, rfl⟩ | ⟨rfl, rfl, hPak⟩
      · go_wp2_with (first | (go_at_call 43; refine (HIN.out g3 _ HRS.out).mono ?_; rintro e W7 ⟨rfl, hk1⟩; have HK7 := Lib.hid hk1; clear hk1) | (refine wpList_store_row rfl 25 (.tmp 4) (.tmp 39) rfl _ 0 rfl Zr (zeroL33.map (Value.int .u8)) rfl (HRres.out.keeps HK7.out) (by rw [hZr]; rfl) sz_b33 (int_oneCell _) ?_; intro W8 hr2 hc2; have HN := Lib.hid hr2; have HC := Lib.hid hc2; clear hr2 hc2))
        exact bodyPost_ret (results_cell_tmpB (p := 4) (t := 5) (ty := 25) rfl _ _ (p + 1 + 1) 0 _ _ _ rfl rfl HN.out Tryd.underlying25 rfl sz_b33) rfl ⟨rfl, nm_keeps_chg (HKW.out.trans HK7.out) HC.out (by omega)⟩
      · have HPAK := Lib.hid hPak
        clear hPak HC2
        go_upto_region 11 with (first | (go_at_call 43; refine (HIN.out g3 _ HRS.out).mono ?_; rintro e W7 ⟨rfl, hk1⟩; have HK7 := Lib.hid hk1; clear hk1))
        have HRres := Lib.hid (HRres.out.keeps HK7.out); have HRS := Lib.hid (HRS.out.keeps HK7.out); have HROW := Lib.hid (HROW.out.keeps HK7.out)
        have HKW := Lib.hid (HKW.out.trans HK7.out)
        go_wp2_with (first | (refine wl HRS.out lS (h := ?_)) | (go_at_call 44; refine (HPAK.out g _ HROW.out).mono ?_; rintro e W8 ⟨rfl, hk1⟩; have HK8 := Lib.hid hk1; clear hk1) | (refine ws (HRres.out.keeps HK8.out) lR (by rw [hZr]) (h := ?_); intro W9 hr2 hc2; have HN := Lib.hid hr2; have HC := Lib.hid hc2; clear hr2 hc2))
        exact bodyPost_ret (results_cell_tmpB (p := 4) (t := 5) (ty := 25) rfl _ _ (p + 1 + 1) 0 _ _ _ rfl rfl HN.out Tryd.underlying25 rfl (by rw [List.length_map, lR]; exact sz_b33)) rfl ⟨rfl, nm_keeps_chg (HKW.out.trans HK8.out) HC.out (by omega)⟩
theorem nv_toNat {t : Int} (h0 : 0 ≤ t) (h : t < NV) : t.toNat < 2 ^ 256 ∧ t.toNat < nVn ∧ ((t.toNat : Nat) : Int) = t := by
  have := nv_eq; have := n_lt
  exact ⟨by omega, by omega, by omega⟩
theorem addpub_any (PB B : List Int) (hP : Bytes PB) (hB : Bytes B) (lP : PB.length = 33) (lB : B.length = 32) (w : World) :
    Calls Tryd.prog 25 #[.agg (PB.map (Value.int .u8)).toArray, .agg (B.map (Value.int .u8)).toArray] w fun e w' => e = .returned (.tuple #[.agg ((addPV PB (be B)).1.map (Value.int .u8)).toArray, .int .i64 (addPV PB (be B)).2]) ∧ Keeps w w' := by
  have ht := be_u256 hB lB
  have hUn := fun g v W hr (hv : Rd W 1 v 33 (PB.map (Value.int .u8))) => unpack_any g v PB hP W hr (by rw [lP]; exact hv)
  rcases addPV_cases PB (be B) with ⟨h1, h2⟩ | ⟨h1, h2, h3⟩ | ⟨h1, a, h2, hc⟩
  · exact addpub_walk PB B (words (be B)) (unpC PB) [] [] (List.replicate 12 0) _ (decide (be B < NV)) (unpN PB).isSome false _ lP lB (words_length _) (unpC_len _) rfl (addPV_len _ _) w
      (fun v W hr => cnumber_any v B W hr hB lB) (fun g W hr => below_any g 7 NV (be B) NV_u256 ht W (gCells_n hr)) hUn (.inl ⟨decide_eq_false h1, by rw [h2], by rw [h2]⟩)
  · exact addpub_walk PB B (words (be B)) (unpC PB) [] [] (List.replicate 12 0) _ (decide (be B < NV)) (unpN PB).isSome false _ lP lB (words_length _) (unpC_len _) rfl (addPV_len _ _) w
      (fun v W hr => cnumber_any v B W hr hB lB) (fun g W hr => below_any g 7 NV (be B) NV_u256 ht W (gCells_n hr)) hUn (.inr (.inl ⟨decide_eq_true h1, by rw [h2]; rfl, by rw [h3], by rw [h3]⟩))
  · obtain ⟨n1, n2, n3⟩ := nv_toNat ht.1 h1
    have hok := (unpN_ok hP h2).1
    have hT : words (be B) = nw (be B).toNat := by unfold nw; rw [n3]
    have hup : unpC PB = ptW a := by unfold unpC; rw [h2]
    have hsok := addJ_ok hok (timesJ_ok (be B).toNat gJ_ok 256)
    have hTi := fun g W hr => times_any g (be B).toNat gJ n1 gJ_ok W hr
    rw [← hT] at hTi
    refine addpub_walk PB B (words (be B)) (unpC PB) (ptW gJ) (ptW (timesJ (be B).toNat gJ 256)) (ptW (addJ a (timesJ (be B).toNat gJ 256))) _ (decide (be B < NV)) (unpN PB).isSome (decide ((addJ a (timesJ (be B).toNat gJ 256)).z = 0)) _ lP lB (words_length _) (unpC_len _) (ptW_len _) (addPV_len _ _) w
      (fun v W hr => cnumber_any v B W hr hB lB) (fun g W hr => below_any g 7 NV (be B) NV_u256 ht W (gCells_n hr)) hUn (.inr (.inr ⟨decide_eq_true h1, by rw [h2]; rfl, fun g W hr => base_any g W hr, hTi, fun g W hr => by rw [hup]; exact gadd_any g _ _ hok (timesJ_ok _ gJ_ok 256) W hr, fun g W hr => infinite_at g _ W hsok.2.2 hr, ?_⟩))
    rcases hc with ⟨hz, he⟩ | ⟨hz, he⟩
    · exact .inl ⟨decide_eq_true hz, by rw [he], by rw [he]⟩
    · exact .inr ⟨decide_eq_false hz, by rw [he], fun g W hr => by rw [he]; exact pack_any g _ hsok W hr⟩
end Go.Proofs.YtlofddoojkeakaaDoor
