/- Both Master: the one key of a seed. No condition. -/
import Derived.Test.YthfepfpmkckdnaaDoorHkKey
import Derived.Test.YthfepfpmkckdnaaDoorRefHmac
import Derived.Lib.SlBytesConst
namespace Go.Proofs.YthfepfpmkckdnaaDoor
set_option linter.unusedVariables false
set_option linter.unusedSimpArgs false
open Go Go.RowKit

/-- a constant string's bytes: the row has the run-time's mark behind it -/
theorem hk_marked {w : World} (vs : List Value) (T : TypeId) (C : Array Value) (hC : C = vs.toArray) (k : Nat) (hk : k = vs.length) : Row (w.alloc (.cells C T (k, k + 1))) w.heap.size 0 vs := fun j v hv => by
  subst hC hk
  have hj : j < vs.length := by
    by_cases hj : j < vs.length
    · exact hj
    · rw [List.getElem?_eq_none (by omega)] at hv; cases hv
  have hb : (w.alloc (.cells vs.toArray T (vs.length, vs.length + 1))).heap[w.heap.size]? = some (.cells vs.toArray T (vs.length, vs.length + 1)) := heap_alloc_new w _
  rw [Nat.zero_add]
  refine ⟨?_, ?_⟩
  · simp only [World.cell?, hb]; simpa using hv
  · simp only [World.frozen?, hb]; simp; omega
/-- what is read copied into a row -/
theorem hk_copy {w : World} {ops : Array Oper} {rest : List Oper} {o : Oper} {a : Act} {Q : Exit → Act → World → Prop} (hgd : o.guard = none) (d s : Operand)
    (ho : o.op = .call { callee := .builtin .copy, args := #[d, s], argTypes := #[22, 22] }) (g i m c1 : Nat) (hd : a.eval d = .slice (some ⟨g, i, none⟩) m c1) (sa : Option Addr) (n cap : Nat) (hs : a.eval s = .slice sa n cap) (hn : n ≤ m)
    (vs : List Value) (hg : Row w g 0 vs) (hl : i + n ≤ vs.length) (xs : List Value) (hr : Rd w 1 (.slice sa n cap) n xs) (h1 : ∀ v ∈ xs, v.oneCell' = true)
    (h : ∀ w', Row w' g 0 (vs.take i ++ xs ++ vs.drop (i + n)) → Chg (· = g) w w' → wpList Tryd.prog ops Q rest (a.put o.dst (goInt n)) w') : wpList Tryd.prog ops Q (o :: rest) a w := by
  have hxl : xs.length = n := by have := hr.1; simpa using this
  have sz : (Tryd.prog.info? 5).map (·.size) = some 1 := by kernel_rfl
  obtain ⟨_, a', cap', e, h2, h3, h4, h5⟩ := hr
  cases e
  by_cases h0 : n = 0
  · subst h0
    have hx0 : xs = [] := List.eq_nil_of_length_eq_zero hxl
    subst hx0
    exact wpList_copy_nothing hgd d s _ _ ho 5 Tryd.underlying22 sz _ _ _ _ _ _ hd hs (by simp) (h _ (by simpa using hg) (Chg.refl _ _))
  · cases sa with
    | none => exact absurd (h4 rfl).1 h0
    | some ad =>
      obtain ⟨g2, off2, rfl, _, hrow⟩ := h5 ad rfl (by omega)
      have hadd : ∀ j, (⟨g2, off2, none⟩ : Addr).add j = ⟨g2, off2 + j, none⟩ := fun j => by unfold Addr.add; split <;> simp_all
      have hsub := (hg.drop i).take n
      have hsl : ((vs.drop i).take n).length = n := by simp; omega
      rw [Nat.zero_add] at hsub
      have hld := run_loadCells_list (P := Tryd.prog) w ⟨g2, off2, none⟩ xs (fun j v hv => by rw [hadd]; exact (hrow j v hv).1)
      have hst := run_storeCells_cells (P := Tryd.prog) g i xs 0 w (fun j hj => by
          rw [Nat.add_zero]
          have := hsub j ((vs.drop i).take n)[j] (List.getElem?_eq_getElem (by omega))
          rw [this.1]; rfl) (fun j hj => by
          rw [Nat.add_zero]
          exact (hsub j ((vs.drop i).take n)[j] (List.getElem?_eq_getElem (by omega))).2) h1
      simp only [Nat.add_zero] at hst
      refine wpList_plain hgd fun K hK => ?_
      cases hq : Tryd.prog.info? 5 with
      | none => simp [hq] at sz
      | some x =>
        have hx : x.size = 1 := by simpa [hq] using sz
        have hmin : Nat.min n m = n := Nat.min_eq_left hn
        have hrun : (Builtin.copy_ #[22, 22] o.type #[.slice (some ⟨g, i, none⟩) m c1, .slice (some ⟨g2, off2, none⟩) n cap]).run Tryd.prog w = .ok (goInt n) (w.setCells g i xs) := by
          rw [hxl] at hld
          simp [Builtin.copy_, run_underlying Tryd.underlying22, Builtin.lenOf, Builtin.firstCells, sizeOf, typeInfo, hq, hx, hmin, hld, hst]
        unfold Oper.wp
        simp [execOp, ho, resolve, invoke, builtin, hd, hs, hrun, Result.andThen]
        have hrow2 := Row.setCells (w := w) xs i hg (by omega)
        rw [Nat.zero_add, hxl] at hrow2
        exact hK _ _ (h _ hrow2 (setCells_chg _ _ _ _))
theorem hk_chgcell {W : World} (b o : Nat) (v : Value) : Chg (· = b) W (W.setCell ⟨b, o, none⟩ v) := (Chg.refl (· = b) W).setCell (p := ⟨b, o, none⟩) (.inr rfl) v
def seedW : List Int := [66, 105, 116, 99, 111, 105, 110, 32, 115, 101, 101, 100]
theorem seedW_bytes : Bytes seedW := by unfold Bytes Byte; decide
def Z4 : List Int := List.replicate 4 0
def Z32k : List Int := List.replicate 32 0
/-- a private key of depth nought -/
def rootK (cc z : List Int) : List Value := keyCells 0 Z4 0 cc (0 :: z)
def seedH (l : List Int) : List Int := B64.hmac seedW l
theorem seedH_length (l : List Int) : (seedH l).length = 64 := B64.hmac_length _ _
theorem seedH_bytes (l : List Int) : Bytes (seedH l) := B64.hmac_bytes _ _
/-- whether a seed's length may be -/
def seedOk (n : Nat) : Bool := decide (16 ≤ n ∧ n ≤ 64)
def masterK (l : List Int) : List Value × Int := if seedOk l.length then (if keyB (be ((seedH l).take 32)) then (rootK ((seedH l).drop 32) ((seedH l).take 32), 0) else (rootK Z32k Z32k, 1)) else (rootK Z32k Z32k, 2)
theorem rootK_length {cc z : List Int} (h1 : cc.length = 32) (h2 : z.length = 32) : (rootK cc z).length = 71 := keyCells_length rfl h1 (by simp [h2])
theorem rootK_one (cc z : List Int) : ∀ v ∈ rootK cc z, v.oneCell' = true := keyCells_one _ _ _ _ _
theorem sz_root {cc z : List Int} (h1 : cc.length = 32) (h2 : z.length = 32) : (Tryd.prog.info? 31).map (·.size) = some (rootK cc z).length := sz_hkey rfl h1 (by simp [h2])
theorem sz_rroot {cc z : List Int} (h1 : cc.length = 32) (h2 : z.length = 32) : (Tryd.prog.info? 35).map (·.size) = some (rootK cc z).length := sz_rkey rfl h1 (by simp [h2])
theorem built_k0 : Tryd.prog.built 31 [] = some (rootK Z32k Z32k).toArray := by kernel_rfl
theorem built_rk0 : Tryd.prog.built 35 [] = some (rootK Z32k Z32k).toArray := by kernel_rfl
theorem root_putD (cc z z' : List Int) (h1 : cc.length = 32) (hz : z.length = 32) (hz' : z'.length = 32) : (rootK cc z).take 39 ++ z'.map (Value.int .u8) ++ (rootK cc z).drop 71 = rootK cc z' := by
  have e : ∀ z : List Int, rootK cc z = (.int .u8 0 :: (Z4.map (Value.int .u8) ++ (.int .u32 0 :: (cc.map (Value.int .u8) ++ [.int .u8 0])))) ++ z.map (Value.int .u8) := fun z => by simp [rootK, keyCells]
  have hl : (.int .u8 0 :: (Z4.map (Value.int .u8) ++ (.int .u32 0 :: (cc.map (Value.int .u8) ++ [Value.int .u8 0])))).length = 39 := by simp [Z4, h1]
  rw [List.drop_eq_nil_of_le (by rw [rootK_length h1 hz]; exact Nat.le_refl _), List.append_nil, e z, e z', List.take_left' hl]
theorem root_putC (cc cc' z : List Int) (h1 : cc.length = 32) (h2 : cc'.length = 32) : (rootK cc z).take 6 ++ cc'.map (Value.int .u8) ++ (rootK cc z).drop 38 = rootK cc' z := by
  have e : ∀ cc : List Int, rootK cc z = (.int .u8 0 :: (Z4.map (Value.int .u8) ++ [.int .u32 0])) ++ (cc.map (Value.int .u8) ++ (0 :: z).map (Value.int .u8)) := fun cc => by simp [rootK, keyCells]
  have hl : (.int .u8 0 :: (Z4.map (Value.int .u8) ++ [Value.int .u32 0])).length = 6 := by simp [Z4]
  have h3 : (rootK cc z).drop 38 = (0 :: z).map (Value.int .u8) := keyCells_data _ _ _ rfl h1
  rw [h3, e cc, e cc', List.take_left' hl, List.append_assoc]
set_option maxRecDepth 100000 in
set_option maxHeartbeats 4000000 in
theorem master_any (v : Value) (n : Nat) (l : List Int) (w : World) (hr : Rd w 1 v n (l.map (Value.int .u8))) (hb : Bytes l) (hln : n = l.length) :
    Calls Tryd.prog 7 #[v] w fun e w' => e = .returned (.tuple #[.agg (masterK l).1.toArray, .int .i64 (masterK l).2]) ∧ Keeps w w' := by
  obtain ⟨a, cap, rfl⟩ : ∃ a c, v = .slice a n c := by obtain ⟨_, a, c, e, _⟩ := hr; exact ⟨a, c, e⟩
  have HR := Lib.hid hr; have HB := Lib.hid hb
  have HLN0 := Lib.hid hln
  have hcase : (n < 16 ∧ masterK l = (rootK Z32k Z32k, 2)) ∨ (¬ n < 16 ∧ 64 < n ∧ masterK l = (rootK Z32k Z32k, 2)) ∨ (¬ n < 16 ∧ ¬ 64 < n ∧ masterK l = if keyB (be ((seedH l).take 32)) then (rootK ((seedH l).drop 32) ((seedH l).take 32), 0) else (rootK Z32k Z32k, 1)) := by
    unfold masterK seedOk
    rw [← hln]
    by_cases h1 : n < 16
    · exact .inl ⟨h1, by rw [decide_eq_false (by omega)]; rfl⟩
    · by_cases h2 : 64 < n
      · exact .inr (.inl ⟨h1, h2, by rw [decide_eq_false (by omega)]; rfl⟩)
      · exact .inr (.inr ⟨h1, h2, by rw [decide_eq_true ⟨by omega, by omega⟩]; rfl⟩)
  clear hln
  have z0 : Z32k.length = 32 := rfl
  have HSZ0 := Lib.hid (sz_root z0 z0)
  rcases hcase with ⟨h1, he⟩ | ⟨h1, h2, he⟩ | ⟨h1, h2, he⟩
  · rw [he]
    clear he hr hb
    go_enter Tryd.func7, Tryd.ntmps7
    go_upto_region 1 with (fail)
    refine cu_rows1 (fun W hk hr hs => ?_)
    have HRP := Lib.hid (show Row W w.heap.size 0 (rootK Z32k Z32k) from hr); have HK := Lib.hid hk
    clear hk hr hs
    go_wp2_with (first | (refine cu_build (by kernel_rfl) 31 _ rfl [] ?_ _ built_k0 ?_; focus rfl) | (refine wpList_store_row rfl 31 (.tmp 2) (.tmp 14) rfl w.heap.size 0 rfl (rootK Z32k Z32k) (rootK Z32k Z32k) rfl HRP.out rfl HSZ0.out (rootK_one _ _) ?_; intro w9 hr9 hc9; have H9 := Lib.hid hr9; have HC9 := Lib.hid hc9; clear hr9 hc9))
    exact bodyPost_ret (results_cell_tmpB (p := 2) (t := 3) (ty := 31) rfl _ _ w.heap.size 0 _ _ _ rfl rfl H9.out Tryd.underlying31 rfl HSZ0.out) rfl ⟨rfl, nm_keeps_chg HK.out HC9.out (Nat.le_refl _)⟩
  · rw [he]
    clear he hr hb
    go_enter Tryd.func7, Tryd.ntmps7
    go_upto_region 1 with (fail)
    refine cu_rows1 (fun W hk hr hs => ?_)
    have HRP := Lib.hid (show Row W w.heap.size 0 (rootK Z32k Z32k) from hr); have HK := Lib.hid hk
    clear hk hr hs
    go_wp2_with (first | (refine cu_build (by kernel_rfl) 31 _ rfl [] ?_ _ built_k0 ?_; focus rfl) | (refine wpList_store_row rfl 31 (.tmp 2) (.tmp 14) rfl w.heap.size 0 rfl (rootK Z32k Z32k) (rootK Z32k Z32k) rfl HRP.out rfl HSZ0.out (rootK_one _ _) ?_; intro w9 hr9 hc9; have H9 := Lib.hid hr9; have HC9 := Lib.hid hc9; clear hr9 hc9))
    exact bodyPost_ret (results_cell_tmpB (p := 2) (t := 3) (ty := 31) rfl _ _ w.heap.size 0 _ _ _ rfl rfl H9.out Tryd.underlying31 rfl HSZ0.out) rfl ⟨rfl, nm_keeps_chg HK.out HC9.out (Nat.le_refl _)⟩
  · rw [he]
    clear he hr hb
    have hHl := seedH_length l
    have hHb := seedH_bytes l
    have HHM := Lib.hid (fun (kv : Value) (W : World) (hk : Rd W 1 kv 12 (seedW.map (Value.int .u8))) (hr : Rd W 1 (.slice a n cap) n (l.map (Value.int .u8))) => B64.hmac_any kv _ 12 n seedW l W hk seedW_bytes (by omega) hr HB.out (by omega))
    have hsh : B64.hmac seedW l = seedH l := rfl
    rw [hsh] at HHM
    clear hsh
    generalize seedH l = H at *
    have ht : (H.take 32).length = 32 := by simp [hHl]
    have hd : (H.drop 32).length = 32 := by simp [hHl]
    have HGD := Lib.hid (fun W => (show Calls Tryd.prog 17 #[.agg (rootK (H.drop 32) (H.take 32)).toArray] W _ from good_any (d := 0) (ch := 0) (fg := Z4) rfl hd ht (fun x hx => hHb x (List.mem_of_mem_take hx)) W))
    have HP1 := Lib.hid (root_putD Z32k Z32k (H.take 32) rfl rfl ht)
    have HP2 := Lib.hid (root_putC Z32k (H.drop 32) (H.take 32) rfl hd)
    have HSZ := Lib.hid (sz_root hd ht)
    have HLN := Lib.hid (show (rootK (H.drop 32) (H.take 32)).length = (rootK Z32k Z32k).length by rw [rootK_length hd ht]; rfl)
    have HON := Lib.hid (rootK_one (H.drop 32) (H.take 32))
    generalize keyB (be (H.take 32)) = KB at *
    generalize rootK (H.drop 32) (H.take 32) = KC at *
    go_enter Tryd.func7, Tryd.ntmps7
    go_upto_region 1 with (fail)
    refine cu_rows1 (fun W hk hr hs => ?_)
    have HRP := Lib.hid (show Row W w.heap.size 0 (rootK Z32k Z32k) from hr); have HK := Lib.hid hk
    have HS0 := Lib.hid hs
    clear hk hr hs
    have hcv := Lib.run_convert_bytes_const (P := Tryd.prog) W 22 5 #[.int .u8 66, .int .u8 105, .int .u8 116, .int .u8 99, .int .u8 111, .int .u8 105, .int .u8 110, .int .u8 32, .int .u8 115, .int .u8 101, .int .u8 101, .int .u8 100] 12 12 Tryd.underlying22 Tryd.underlying5
    simp only [List.size_toArray, List.length_cons, List.length_nil, Nat.reduceAdd] at hcv
    have hkc : ∀ o, Keeps w (W.alloc o) := fun o => nm_keeps_alloc HK.out o
    have HKC := Lib.hid hkc
    clear hkc
    go_upto_region 4 with (first
      | (go_at_call 16; refine (HHM.out _ _ (Rd.of_row (hk_marked (seedW.map (Value.int .u8)) 5 _ rfl 12 rfl) rfl (by simp) (by omega) (by unfold maxLen; omega)) (HR.out.keeps (HKC.out _))).mono ?_; rintro e W2 ⟨rfl, hk2⟩; have HK2 := Lib.hid hk2; clear hk2)
      | (refine wpList_store_row rfl 49 (.tmp 4) (.tmp 18) rfl W2.heap.size 0 rfl (List.replicate 64 (Value.int .u8 0)) (H.map (Value.int .u8)) rfl (Row.new _ _ _ rfl) (by rw [List.length_map, hHl]; rfl) (by rw [List.length_map, hHl]; kernel_rfl) (int_oneCell _) ?_; intro W3 hr3 hc3; have HR3 := Lib.hid hr3; have HK3 := Lib.hid (nm_keeps_chg (nm_keeps_alloc (Keeps.refl W2) _) hc3 (Nat.le_refl _)); clear hr3 hc3))
    have hkm : Keeps W W2 := Keeps.trans (nm_keeps_alloc (Keeps.refl W) _) HK2.out
    have hW3 : Keeps w W3 := (HK.out.trans hkm).trans HK3.out
    have HRP3 := Lib.hid (HRP.out.keeps (hkm.trans HK3.out))
    have hps : w.heap.size < W2.heap.size := by have h1 := HS0.out; have h2 := hkm.size; omega
    have hss : W2.heap.size < W3.heap.size := HR3.out.lt (by intro e; have := congrArg List.length e; simp [hHl] at this)
    have HKW := Lib.hid hW3
    clear hkm hW3 HK2 HK3 HK HRP hcv HKC HS0
    generalize W2.heap.size = hh at *
    go_upto_region 5 with (fail)
    refine cu_rows1 (fun W5 hk5 hr5 hs5 => ?_)
    have HR5 := Lib.hid (show Row W5 W3.heap.size 0 (rootK Z32k Z32k) from hr5)
    have HRH := Lib.hid (HR3.out.keeps hk5); have HRP5 := Lib.hid (HRP3.out.keeps hk5); have HKW5 := Lib.hid (HKW.out.trans hk5)
    have hks : W3.heap.size < W5.heap.size := by omega
    have hwk : w.heap.size ≤ W3.heap.size := HKW.out.size
    clear hk5 hr5 hs5 HR3 HRP3 HKW
    generalize W3.heap.size = k at *
    refine wp_region_quiet_tail 3 (by kernel_rfl) (by kernel_rfl) ?_
    simp only [List.take_succ_cons, List.take_zero, List.drop_succ_cons, List.drop_zero]
    repeat (first | go_big_quiet_step (fail) | quiet_step (fail))
    refine wpQuiet_nil ?_
    intro _ hw'
    obtain ⟨nq, hw''⟩ := hw'
    subst hw''
    refine hk_copy rfl (.tmp 20) (.tmp 21) rfl k 39 32 32 rfl (some ⟨hh, 0, none⟩) 32 64 rfl (Nat.le_refl _) (rootK Z32k Z32k) (HR5.out.drewN nq) (by rw [rootK_length rfl rfl]; omega) ((H.take 32).map (Value.int .u8)) (Rd.of_row (by have := (HRH.out.drewN nq).take 32; rwa [← List.map_take] at this) (by simp [hHl]) (by show hh < W5.heap.size; omega) (by omega) (by unfold maxLen; omega)) (int_oneCell _) (fun W6 hr6 hc6 => ?_)
    have hr6 : Row W6 k 0 ((rootK Z32k Z32k).take 39 ++ (H.take 32).map (Value.int .u8) ++ (rootK Z32k Z32k).drop 71) := hr6
    rw [HP1.out] at hr6
    have HR6 := Lib.hid hr6
    have HRH6 := Lib.hid ((HRH.out.drewN nq).chg hc6 (by omega)); have HRP6 := Lib.hid ((HRP5.out.drewN nq).chg hc6 (by omega))
    have HKW6 := Lib.hid (nm_keeps_chg (HKW5.out.trans (Qt.drewN W5 nq).keeps) hc6 hwk)
    have hs6 : k < W6.heap.size := Nat.lt_of_lt_of_le hks (show W5.heap.size ≤ W6.heap.size from hc6.size)
    clear hr6 hc6 HRH HRP5 HKW5 HR5 hks
    go_upto_region 6 with (fail)
    refine wp_region_quiet_tail 3 (by kernel_rfl) (by kernel_rfl) ?_
    simp only [List.take_succ_cons, List.take_zero, List.drop_succ_cons, List.drop_zero]
    repeat (first | go_big_quiet_step (fail) | quiet_step (fail))
    refine wpQuiet_nil ?_
    intro _ hw'
    obtain ⟨nq, hw''⟩ := hw'
    subst hw''
    refine hk_copy rfl (.tmp 24) (.tmp 25) rfl k 6 32 32 rfl (some ⟨hh, 32, none⟩) 32 32 rfl (Nat.le_refl _) (rootK Z32k (H.take 32)) (HR6.out.drewN _) (by rw [rootK_length rfl ht]; omega) ((H.drop 32).map (Value.int .u8)) (Rd.of_row (by have := (HRH6.out.drewN nq).drop 32; rwa [← List.map_drop, Nat.zero_add] at this) (by simp [hHl]) (by show hh < W6.heap.size; omega) (by omega) (by unfold maxLen; omega)) (int_oneCell _) (fun W7 hr7 hc7 => ?_)
    have hr7 : Row W7 k 0 ((rootK Z32k (H.take 32)).take 6 ++ (H.drop 32).map (Value.int .u8) ++ (rootK Z32k (H.take 32)).drop 38) := hr7
    rw [HP2.out] at hr7
    have HR7 := Lib.hid hr7
    have HRP7 := Lib.hid ((HRP6.out.drewN nq).chg hc7 (by omega))
    have HKW7 := Lib.hid (nm_keeps_chg (HKW6.out.trans (Qt.drewN W6 nq).keeps) hc7 hwk)
    clear hr7 hc7 HRH6 HRP6 HKW6 HR6 HP1 HP2
    cases KB
    · go_wp2_with (first | (refine wpList_load_at rfl 31 (.tmp 5) rfl k 0 rfl _ _ HR7.out Tryd.underlying31 rfl HSZ.out ?_) | (go_at_call 17; refine (HGD.out _).mono ?_; rintro e W8 ⟨rfl, hk8⟩; have HK8 := Lib.hid hk8; clear hk8) | (refine cu_build (by kernel_rfl) 31 _ rfl [] ?_ _ built_k0 ?_; focus rfl) | (refine wpList_store_row rfl 31 (.tmp 2) (.tmp 30) rfl w.heap.size 0 rfl (rootK Z32k Z32k) (rootK Z32k Z32k) rfl (HRP7.out.keeps HK8.out) rfl HSZ0.out (rootK_one _ _) ?_; intro w9 hr9 hc9; have H9 := Lib.hid hr9; have HC9 := Lib.hid hc9; clear hr9 hc9))
      exact bodyPost_ret (results_cell_tmpB (p := 2) (t := 3) (ty := 31) rfl _ _ w.heap.size 0 _ _ _ rfl rfl H9.out Tryd.underlying31 rfl HSZ0.out) rfl ⟨rfl, nm_keeps_chg (HKW7.out.trans HK8.out) HC9.out (Nat.le_refl _)⟩
    · go_wp2_with (first | (refine wpList_load_at rfl 31 (.tmp 5) rfl k 0 rfl _ _ (by first | exact HR7.out.keeps HK8.out | exact HR7.out) Tryd.underlying31 rfl HSZ.out ?_) | (go_at_call 17; refine (HGD.out _).mono ?_; rintro e W8 ⟨rfl, hk8⟩; have HK8 := Lib.hid hk8; clear hk8) | (refine wpList_store_row rfl 31 (.tmp 2) (.tmp 31) rfl w.heap.size 0 rfl (rootK Z32k Z32k) KC rfl (HRP7.out.keeps HK8.out) HLN.out HSZ.out HON.out ?_; intro w9 hr9 hc9; have H9 := Lib.hid hr9; have HC9 := Lib.hid hc9; clear hr9 hc9))
      exact bodyPost_ret (results_cell_tmpB (p := 2) (t := 3) (ty := 31) rfl _ _ w.heap.size 0 _ _ _ rfl rfl H9.out Tryd.underlying31 rfl HSZ.out) rfl ⟨rfl, nm_keeps_chg (HKW7.out.trans HK8.out) HC9.out (Nat.le_refl _)⟩
set_option maxRecDepth 100000 in
set_option maxHeartbeats 4000000 in
theorem rmaster_any (v : Value) (n : Nat) (l : List Int) (w : World) (hr : Rd w 1 v n (l.map (Value.int .u8))) (hb : Bytes l) (hln : n = l.length) :
    Calls Tryd.prog 8 #[v] w fun e w' => e = .returned (.tuple #[.agg (masterK l).1.toArray, .int .i64 (masterK l).2]) ∧ Keeps w w' := by
  obtain ⟨a, cap, rfl⟩ : ∃ a c, v = .slice a n c := by obtain ⟨_, a, c, e, _⟩ := hr; exact ⟨a, c, e⟩
  have HR := Lib.hid hr; have HB := Lib.hid hb
  have HLN0 := Lib.hid hln
  have hcase : (n < 16 ∧ masterK l = (rootK Z32k Z32k, 2)) ∨ (¬ n < 16 ∧ 64 < n ∧ masterK l = (rootK Z32k Z32k, 2)) ∨ (¬ n < 16 ∧ ¬ 64 < n ∧ masterK l = if keyB (be ((seedH l).take 32)) then (rootK ((seedH l).drop 32) ((seedH l).take 32), 0) else (rootK Z32k Z32k, 1)) := by
    unfold masterK seedOk
    rw [← hln]
    by_cases h1 : n < 16
    · exact .inl ⟨h1, by rw [decide_eq_false (by omega)]; rfl⟩
    · by_cases h2 : 64 < n
      · exact .inr (.inl ⟨h1, h2, by rw [decide_eq_false (by omega)]; rfl⟩)
      · exact .inr (.inr ⟨h1, h2, by rw [decide_eq_true ⟨by omega, by omega⟩]; rfl⟩)
  clear hln
  have z0 : Z32k.length = 32 := rfl
  have HSZ0 := Lib.hid (sz_rroot z0 z0)
  rcases hcase with ⟨h1, he⟩ | ⟨h1, h2, he⟩ | ⟨h1, h2, he⟩
  · rw [he]
    clear he hr hb
    go_enter Tryd.func8, Tryd.ntmps8
    go_upto_region 1 with (fail)
    refine cu_rows1 (fun W hk hr hs => ?_)
    have HRP := Lib.hid (show Row W w.heap.size 0 (rootK Z32k Z32k) from hr); have HK := Lib.hid hk
    clear hk hr hs
    go_wp2_with (first | (refine cu_build (by kernel_rfl) 35 _ rfl [] ?_ _ built_rk0 ?_; focus rfl) | (refine wpList_store_row rfl 35 (.tmp 2) (.tmp 15) rfl w.heap.size 0 rfl (rootK Z32k Z32k) (rootK Z32k Z32k) rfl HRP.out rfl HSZ0.out (rootK_one _ _) ?_; intro w9 hr9 hc9; have H9 := Lib.hid hr9; have HC9 := Lib.hid hc9; clear hr9 hc9))
    exact bodyPost_ret (results_cell_tmpB (p := 2) (t := 3) (ty := 35) rfl _ _ w.heap.size 0 _ _ _ rfl rfl H9.out Tryd.underlying35 rfl HSZ0.out) rfl ⟨rfl, nm_keeps_chg HK.out HC9.out (Nat.le_refl _)⟩
  · rw [he]
    clear he hr hb
    go_enter Tryd.func8, Tryd.ntmps8
    go_upto_region 1 with (fail)
    refine cu_rows1 (fun W hk hr hs => ?_)
    have HRP := Lib.hid (show Row W w.heap.size 0 (rootK Z32k Z32k) from hr); have HK := Lib.hid hk
    clear hk hr hs
    go_wp2_with (first | (refine cu_build (by kernel_rfl) 35 _ rfl [] ?_ _ built_rk0 ?_; focus rfl) | (refine wpList_store_row rfl 35 (.tmp 2) (.tmp 15) rfl w.heap.size 0 rfl (rootK Z32k Z32k) (rootK Z32k Z32k) rfl HRP.out rfl HSZ0.out (rootK_one _ _) ?_; intro w9 hr9 hc9; have H9 := Lib.hid hr9; have HC9 := Lib.hid hc9; clear hr9 hc9))
    exact bodyPost_ret (results_cell_tmpB (p := 2) (t := 3) (ty := 35) rfl _ _ w.heap.size 0 _ _ _ rfl rfl H9.out Tryd.underlying35 rfl HSZ0.out) rfl ⟨rfl, nm_keeps_chg HK.out HC9.out (Nat.le_refl _)⟩
  · rw [he]
    clear he hr hb
    have hHl := seedH_length l
    have hHb := seedH_bytes l
    have HHM := Lib.hid (fun (kv : Value) (W : World) (hk : Rd W 1 kv 12 (seedW.map (Value.int .u8))) (hr : Rd W 1 (.slice a n cap) n (l.map (Value.int .u8))) => B64.ref_hmac kv _ 12 n seedW l W hk seedW_bytes (by omega) hr HB.out (by omega))
    have hsh : B64.hmac seedW l = seedH l := rfl
    rw [hsh] at HHM
    clear hsh
    generalize seedH l = H at *
    have ht : (H.take 32).length = 32 := by simp [hHl]
    have hd : (H.drop 32).length = 32 := by simp [hHl]
    have HGD := Lib.hid (fun W => (show Calls Tryd.prog 19 #[.agg (rootK (H.drop 32) (H.take 32)).toArray] W _ from rgood_any (d := 0) (ch := 0) (fg := Z4) rfl hd ht (fun x hx => hHb x (List.mem_of_mem_take hx)) W))
    have HSZ := Lib.hid (sz_rroot hd ht)
    have HLN := Lib.hid (show (rootK (H.drop 32) (H.take 32)).length = (rootK Z32k Z32k).length by rw [rootK_length hd ht]; rfl)
    have HON := Lib.hid (rootK_one (H.drop 32) (H.take 32))
    generalize keyB (be (H.take 32)) = KB at *
    obtain ⟨ST, hST⟩ : ∃ ST : Nat → List Value, ST = fun i => rootK (uptoZ (H.drop 32) i) (uptoZ (H.take 32) i) := ⟨_, rfl⟩
    have hst0 : ST 0 = rootK Z32k Z32k := by rw [hST]; simp only [uptoZ_zero]; rfl
    have hst32 : ST 32 = rootK (H.drop 32) (H.take 32) := by rw [hST]; simp only [uptoZ_full hd, uptoZ_full ht]
    have hstep : ∀ i, i < 32 → ((ST i).set (38 + (i + 1)) (.int .u8 (H.getD i 0))).set (6 + i) (.int .u8 (H.getD (32 + i) 0)) = ST (i + 1) := fun i hi => by
      have e1 : H.getD i 0 = (H.take 32).getD i 0 := by simp [List.getD, hi]
      have e2 : H.getD (32 + i) 0 = (H.drop 32).getD i 0 := by simp [List.getD]
      rw [hST]
      simp only [rootK]
      rw [keyCells_setD _ _ _ rfl (uptoZ_length hd (by omega)), List.set_cons_succ, e1, uptoZ_set ht hi, keyCells_setC _ _ _ _ rfl _ _ (by rw [uptoZ_length hd (by omega)]; exact hi), e2, uptoZ_set hd hi]
    have hsl : ∀ i, i ≤ 32 → (ST i).length = 71 := fun i hi => by rw [hST]; exact rootK_length (uptoZ_length hd hi) (uptoZ_length ht hi)
    have HST0 := Lib.hid hst0; have HST32 := Lib.hid hst32; have HSTEP := Lib.hid hstep; have HSL := Lib.hid hsl
    clear hst0 hst32 hstep hsl hST
    generalize rootK (H.drop 32) (H.take 32) = KC at *
    go_enter Tryd.func8, Tryd.ntmps8
    go_upto_region 1 with (fail)
    refine cu_rows1 (fun W hk hr hs => ?_)
    have HRP := Lib.hid (show Row W w.heap.size 0 (rootK Z32k Z32k) from hr); have HK := Lib.hid hk
    have HS0 := Lib.hid hs
    clear hk hr hs
    have hcv := Lib.run_convert_bytes_const (P := Tryd.prog) W 22 5 #[.int .u8 66, .int .u8 105, .int .u8 116, .int .u8 99, .int .u8 111, .int .u8 105, .int .u8 110, .int .u8 32, .int .u8 115, .int .u8 101, .int .u8 101, .int .u8 100] 12 12 Tryd.underlying22 Tryd.underlying5
    simp only [List.size_toArray, List.length_cons, List.length_nil, Nat.reduceAdd] at hcv
    have hkc : ∀ o, Keeps w (W.alloc o) := fun o => nm_keeps_alloc HK.out o
    have HKC := Lib.hid hkc
    clear hkc
    go_upto_region 4 with (first
      | (go_at_call 18; refine (HHM.out _ _ (Rd.of_row (hk_marked (seedW.map (Value.int .u8)) 5 _ rfl 12 rfl) rfl (by simp) (by omega) (by unfold maxLen; omega)) (HR.out.keeps (HKC.out _))).mono ?_; rintro e W2 ⟨rfl, hk2⟩; have HK2 := Lib.hid hk2; clear hk2)
      | (refine wpList_store_row rfl 49 (.tmp 4) (.tmp 19) rfl W2.heap.size 0 rfl (List.replicate 64 (Value.int .u8 0)) (H.map (Value.int .u8)) rfl (Row.new _ _ _ rfl) (by rw [List.length_map, hHl]; rfl) (by rw [List.length_map, hHl]; kernel_rfl) (int_oneCell _) ?_; intro W3 hr3 hc3; have HR3 := Lib.hid hr3; have HK3 := Lib.hid (nm_keeps_chg (nm_keeps_alloc (Keeps.refl W2) _) hc3 (Nat.le_refl _)); clear hr3 hc3))
    have hkm : Keeps W W2 := Keeps.trans (nm_keeps_alloc (Keeps.refl W) _) HK2.out
    have hW3 : Keeps w W3 := (HK.out.trans hkm).trans HK3.out
    have HRP3 := Lib.hid (HRP.out.keeps (hkm.trans HK3.out))
    have hps : w.heap.size < W2.heap.size := by have h1 := HS0.out; have h2 := hkm.size; omega
    have hss : W2.heap.size < W3.heap.size := HR3.out.lt (by intro e; have := congrArg List.length e; simp [hHl] at this)
    have HKW := Lib.hid hW3
    clear hkm hW3 HK2 HK3 HK HRP hcv HKC HS0
    generalize W2.heap.size = hh at *
    go_upto_region 5 with (fail)
    refine cu_rows1 (fun W5 hk5 hr5 hs5 => ?_)
    have HR5 := Lib.hid (show Row W5 W3.heap.size 0 (rootK Z32k Z32k) from hr5)
    have HRH := Lib.hid (HR3.out.keeps hk5); have HRP5 := Lib.hid (HRP3.out.keeps hk5); have HKW5 := Lib.hid (HKW.out.trans hk5)
    have hwk : w.heap.size ≤ W3.heap.size := HKW.out.size
    have hpk : w.heap.size < W3.heap.size := by omega
    clear hk5 hr5 hs5 HR3 HRP3 HKW
    generalize W3.heap.size = k at *
    go_wp2
    go_loopw [6] (fun c wr => ∃ i : Nat, i ≤ 32 ∧ c = .int .i64 i ∧ Hid (Chg (· = k) W5 wr) ∧ Hid (Row wr k 0 (ST i))) (fun c _ => (32 - intOf c).toNat)
    case atStart => exact ⟨0, by omega, rfl, Lib.hid (Chg.refl _ _), Lib.hid (by rw [HST0.out]; exact HR5.out)⟩
    case round =>
      obtain ⟨i, hi, rfl, HC, HROW⟩ := hrel
      by_cases hlt : i < 32
      · have hrh := HRH.out.chg HC.out (by omega)
        have c1 := hrh.int0 i (by rw [hHl]; omega)
        have hz1 : ∃ u, wr.cell? ⟨k, 38 + (i + 1), none⟩ = some u ∧ wr.frozen? ⟨k, 38 + (i + 1), none⟩ = false := by
          have := HROW.out (38 + (i + 1)) _ (List.getElem?_eq_getElem (by rw [HSL.out i hi]; omega))
          rw [Nat.zero_add] at this
          exact ⟨_, this⟩
        obtain ⟨u1, z1, f1⟩ := hz1
        obtain ⟨x, hx⟩ : ∃ x, x = H.getD i 0 := ⟨_, rfl⟩
        obtain ⟨y, hy⟩ : ∃ y, y = H.getD (32 + i) 0 := ⟨_, rfl⟩
        have HSP := Lib.hid (HSTEP.out i hlt)
        rw [← hx, ← hy] at HSP
        rw [← hx] at c1
        have HY := Lib.hid hy
        clear hrh hx hy
        go_upto_region 9 with (fail)
        have hrow2 := HROW.out.set (38 + (i + 1)) (by rw [HSL.out i hi]; omega) (.int .u8 x)
        rw [Nat.zero_add] at hrow2
        have hch2 : Chg (· = k) W5 (wr.setCell ⟨k, 38 + (i + 1), none⟩ (.int .u8 x)) := HC.out.trans (hk_chgcell k (38 + (i + 1)) _)
        have HR2 := Lib.hid hrow2; have HC2 := Lib.hid hch2
        clear hrow2 hch2 HROW HC c1 z1 f1
        generalize wr.setCell ⟨k, 38 + (i + 1), none⟩ (.int .u8 x) = WX at *
        have hrh := HRH.out.chg HC2.out (by omega)
        have c1 := hrh.int0 (32 + i) (by rw [hHl]; omega)
        rw [← HY.out] at c1
        have hz1 : ∃ u, WX.cell? ⟨k, 6 + i, none⟩ = some u ∧ WX.frozen? ⟨k, 6 + i, none⟩ = false := by
          have := HR2.out (6 + i) _ (List.getElem?_eq_getElem (by rw [List.length_set, HSL.out i hi]; omega))
          rw [Nat.zero_add] at this
          exact ⟨_, this⟩
        obtain ⟨u2, z2, f2⟩ := hz1
        have hrow3 := HR2.out.set (6 + i) (by rw [List.length_set, HSL.out i hi]; omega) (.int .u8 y)
        rw [Nat.zero_add, HSP.out] at hrow3
        have HR3 := Lib.hid hrow3
        have HC3 := Lib.hid (HC2.out.trans (hk_chgcell k (6 + i) (.int .u8 y)))
        clear hrh hrow3
        go_wp2
        go_roundw
        case rel => exact ⟨i + 1, by omega, by go_num, HC3, HR3⟩
        case measure => simp [intOf]; omega
      · obtain rfl : i = 32 := by omega
        rw [HST32.out] at HROW
        have HRP7 := Lib.hid (HRP5.out.chg HC.out (by omega))
        have HKW7 := Lib.hid (nm_keeps_chg HKW5.out HC.out hwk)
        clear HC HRP5 HKW5 HRH
        cases KB
        · go_wp2_with (first | (refine wpList_load_at rfl 35 (.tmp 5) rfl k 0 rfl _ _ HROW.out Tryd.underlying35 rfl HSZ.out ?_) | (go_at_call 19; refine (HGD.out _).mono ?_; rintro e W8 ⟨rfl, hk8⟩; have HK8 := Lib.hid hk8; clear hk8) | (refine cu_build (by kernel_rfl) 35 _ rfl [] ?_ _ built_rk0 ?_; focus rfl) | (refine wpList_store_row rfl 35 (.tmp 2) (.tmp 41) rfl w.heap.size 0 rfl (rootK Z32k Z32k) (rootK Z32k Z32k) rfl (HRP7.out.keeps HK8.out) rfl HSZ0.out (rootK_one _ _) ?_; intro w9 hr9 hc9; have H9 := Lib.hid hr9; have HC9 := Lib.hid hc9; clear hr9 hc9))
          exact bodyPost_ret (results_cell_tmpB (p := 2) (t := 3) (ty := 35) rfl _ _ w.heap.size 0 _ _ _ rfl rfl H9.out Tryd.underlying35 rfl HSZ0.out) rfl ⟨rfl, nm_keeps_chg (HKW7.out.trans HK8.out) HC9.out (Nat.le_refl _)⟩
        · go_wp2_with (first | (refine wpList_load_at rfl 35 (.tmp 5) rfl k 0 rfl _ _ (by first | exact HROW.out.keeps HK8.out | exact HROW.out) Tryd.underlying35 rfl HSZ.out ?_) | (go_at_call 19; refine (HGD.out _).mono ?_; rintro e W8 ⟨rfl, hk8⟩; have HK8 := Lib.hid hk8; clear hk8) | (refine wpList_store_row rfl 35 (.tmp 2) (.tmp 42) rfl w.heap.size 0 rfl (rootK Z32k Z32k) KC rfl (HRP7.out.keeps HK8.out) HLN.out HSZ.out HON.out ?_; intro w9 hr9 hc9; have H9 := Lib.hid hr9; have HC9 := Lib.hid hc9; clear hr9 hc9))
          exact bodyPost_ret (results_cell_tmpB (p := 2) (t := 3) (ty := 35) rfl _ _ w.heap.size 0 _ _ _ rfl rfl H9.out Tryd.underlying35 rfl HSZ.out) rfl ⟨rfl, nm_keeps_chg (HKW7.out.trans HK8.out) HC9.out (Nat.le_refl _)⟩
end Go.Proofs.YthfepfpmkckdnaaDoor
