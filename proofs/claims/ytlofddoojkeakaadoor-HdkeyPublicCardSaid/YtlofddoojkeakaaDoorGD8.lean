/- Both Master: the one key of a seed. No condition. | A region that draws its order, inside a round of a range over a function: its first operations quiet (in a class of worlds), then the last ones as a list. (QTail, in the round's fence.) And a whole array loaded in such a region. No condition. | A region that draws its order, by what holds after any of its operations: for regions in which loads, calls and allocations may come in many orders. No condition. -/
import Derived.Test.YtlofddoojkeakaaDoorGC8
import Derived.Test.YtlofddoojkeakaaDoorGD7
import Derived.Lib.SlBytesConst
import Derived.Test.YtlofddoojkeakaaDoorGA0
import Derived.OrdersIn
import Derived.TacticsInMore
import Derived.RangeFuncCalls
import Derived.Lib.QuietBelow
import Derived.Sort.QuietThIn
namespace Go.Proofs.YtlofddoojkeakaaDoor
set_option linter.unusedVariables false
set_option linter.unusedSimpArgs false
open Go Go.RowKit

/-- a constant string's bytes: the row has the run-time's mark behind it -/
theorem hk_marked {w : World} (vs : List Value) (T : TypeId) (C : Array Value) (hC : C = vs.toArray) (k : Nat) (hk : k = vs.length) : Row (w.alloc (.cells C T (k, k + 1))) w.heap.size 0 vs := fun j v hv => by
  subst hC hk
  have hj : j < vs.length := by
    by_cases hj : j < vs.length
    · exact hj
    · rw [List.getElem?_eq_none (by omega)] at hv; cases hv
  have hb : (w.alloc (.cells vs.toArray T (vs.length, vs.length + 1))).heap[w.heap.size]? = some (.cells vs.toArray T (vs.length, vs.length + 1)) := heap_alloc_new w _
  rw [Nat.zero_add]
  refine ⟨?_, ?_⟩
  · simp only [World.cell?, hb]; simpa using hv
  · simp only [World.frozen?, hb]; simp; omega
/-- what is read copied into a row -/
theorem hk_copy {w : World} {ops : Array Oper} {rest : List Oper} {o : Oper} {a : Act} {Q : Exit → Act → World → Prop} (hgd : o.guard = none) (d s : Operand)
    (ho : o.op = .call { callee := .builtin .copy, args := #[d, s], argTypes := #[38, 38] }) (g i m c1 : Nat) (hd : a.eval d = .slice (some ⟨g, i, none⟩) m c1) (sa : Option Addr) (n cap : Nat) (hs : a.eval s = .slice sa n cap) (hn : n ≤ m)
    (vs : List Value) (hg : Row w g 0 vs) (hl : i + n ≤ vs.length) (xs : List Value) (hr : Rd w 1 (.slice sa n cap) n xs) (h1 : ∀ v ∈ xs, v.oneCell' = true)
    (h : ∀ w', Row w' g 0 (vs.take i ++ xs ++ vs.drop (i + n)) → Chg (· = g) w w' → wpList Tryd.prog ops Q rest (a.put o.dst (goInt n)) w') : wpList Tryd.prog ops Q (o :: rest) a w := by
  have hxl : xs.length = n := by have := hr.1; simpa using this
  have sz : (Tryd.prog.info? 5).map (·.size) = some 1 := by kernel_rfl
  obtain ⟨_, a', cap', e, h2, h3, h4, h5⟩ := hr
  cases e
  by_cases h0 : n = 0
  · subst h0
    have hx0 : xs = [] := List.eq_nil_of_length_eq_zero hxl
    subst hx0
    exact wpList_copy_nothing hgd d s _ _ ho 5 Tryd.underlying38 sz _ _ _ _ _ _ hd hs (by simp) (h _ (by simpa using hg) (Chg.refl _ _))
  · cases sa with
    | none => exact absurd (h4 rfl).1 h0
    | some ad =>
      obtain ⟨g2, off2, rfl, _, hrow⟩ := h5 ad rfl (by omega)
      have hadd : ∀ j, (⟨g2, off2, none⟩ : Addr).add j = ⟨g2, off2 + j, none⟩ := fun j => by unfold Addr.add; split <;> simp_all
      have hsub := (hg.drop i).take n
      have hsl : ((vs.drop i).take n).length = n := by simp; omega
      rw [Nat.zero_add] at hsub
      have hld := run_loadCells_list (P := Tryd.prog) w ⟨g2, off2, none⟩ xs (fun j v hv => by rw [hadd]; exact (hrow j v hv).1)
      have hst := run_storeCells_cells (P := Tryd.prog) g i xs 0 w (fun j hj => by
          rw [Nat.add_zero]
          have := hsub j ((vs.drop i).take n)[j] (List.getElem?_eq_getElem (by omega))
          rw [this.1]; rfl) (fun j hj => by
          rw [Nat.add_zero]
          exact (hsub j ((vs.drop i).take n)[j] (List.getElem?_eq_getElem (by omega))).2) h1
      simp only [Nat.add_zero] at hst
      refine wpList_plain hgd fun K hK => ?_
      cases hq : Tryd.prog.info? 5 with
      | none => simp [hq] at sz
      | some x =>
        have hx : x.size = 1 := by simpa [hq] using sz
        have hmin : Nat.min n m = n := Nat.min_eq_left hn
        have hrun : (Builtin.copy_ #[38, 38] o.type #[.slice (some ⟨g, i, none⟩) m c1, .slice (some ⟨g2, off2, none⟩) n cap]).run Tryd.prog w = .ok (goInt n) (w.setCells g i xs) := by
          rw [hxl] at hld
          simp [Builtin.copy_, run_underlying Tryd.underlying38, Builtin.lenOf, Builtin.firstCells, sizeOf, typeInfo, hq, hx, hmin, hld, hst]
        unfold Oper.wp
        simp [execOp, ho, resolve, invoke, builtin, hd, hs, hrun, Result.andThen]
        have hrow2 := Row.setCells (w := w) xs i hg (by omega)
        rw [Nat.zero_add, hxl] at hrow2
        exact hK _ _ (h _ hrow2 (setCells_chg _ _ _ _))
def seedW : List Int := [66, 105, 116, 99, 111, 105, 110, 32, 115, 101, 101, 100]
theorem seedW_bytes : Bytes seedW := by unfold Bytes Byte; decide
def Z4 : List Int := List.replicate 4 0
def Z32k : List Int := List.replicate 32 0
/-- a private key of depth nought -/
def rootK (cc z : List Int) : List Value := keyCells 0 Z4 0 cc (0 :: z)
def seedH (l : List Int) : List Int := B64.hmac seedW l
theorem seedH_length (l : List Int) : (seedH l).length = 64 := B64.hmac_length _ _
theorem seedH_bytes (l : List Int) : Bytes (seedH l) := B64.hmac_bytes _ _
/-- whether a seed's length may be -/
def seedOk (n : Nat) : Bool := decide (16 ≤ n ∧ n ≤ 64)
def masterK (l : List Int) : List Value × Int := if seedOk l.length then (if keyB (be ((seedH l).take 32)) then (rootK ((seedH l).drop 32) ((seedH l).take 32), 0) else (rootK Z32k Z32k, 1)) else (rootK Z32k Z32k, 2)
theorem rootK_length {cc z : List Int} (h1 : cc.length = 32) (h2 : z.length = 32) : (rootK cc z).length = 71 := keyCells_length rfl h1 (by simp [h2])
theorem rootK_one (cc z : List Int) : ∀ v ∈ rootK cc z, v.oneCell' = true := keyCells_one _ _ _ _ _
theorem sz_root {cc z : List Int} (h1 : cc.length = 32) (h2 : z.length = 32) : (Tryd.prog.info? 30).map (·.size) = some (rootK cc z).length := sz_hkey rfl h1 (by simp [h2])
theorem built_k0 : Tryd.prog.built 30 [] = some (rootK Z32k Z32k).toArray := by kernel_rfl
theorem root_putD (cc z z' : List Int) (h1 : cc.length = 32) (hz : z.length = 32) (hz' : z'.length = 32) : (rootK cc z).take 39 ++ z'.map (Value.int .u8) ++ (rootK cc z).drop 71 = rootK cc z' := by
  have e : ∀ z : List Int, rootK cc z = (.int .u8 0 :: (Z4.map (Value.int .u8) ++ (.int .u32 0 :: (cc.map (Value.int .u8) ++ [.int .u8 0])))) ++ z.map (Value.int .u8) := fun z => by simp [rootK, keyCells]
  have hl : (.int .u8 0 :: (Z4.map (Value.int .u8) ++ (.int .u32 0 :: (cc.map (Value.int .u8) ++ [Value.int .u8 0])))).length = 39 := by simp [Z4, h1]
  rw [List.drop_eq_nil_of_le (by rw [rootK_length h1 hz]; exact Nat.le_refl _), List.append_nil, e z, e z', List.take_left' hl]
theorem root_putC (cc cc' z : List Int) (h1 : cc.length = 32) (h2 : cc'.length = 32) : (rootK cc z).take 6 ++ cc'.map (Value.int .u8) ++ (rootK cc z).drop 38 = rootK cc' z := by
  have e : ∀ cc : List Int, rootK cc z = (.int .u8 0 :: (Z4.map (Value.int .u8) ++ [.int .u32 0])) ++ (cc.map (Value.int .u8) ++ (0 :: z).map (Value.int .u8)) := fun cc => by simp [rootK, keyCells]
  have hl : (.int .u8 0 :: (Z4.map (Value.int .u8) ++ [Value.int .u32 0])).length = 6 := by simp [Z4]
  have h3 : (rootK cc z).drop 38 = (0 :: z).map (Value.int .u8) := keyCells_data _ _ _ rfl h1
  rw [h3, e cc, e cc', List.take_left' hl, List.append_assoc]
set_option maxRecDepth 100000 in
set_option maxHeartbeats 4000000 in
theorem master_any (v : Value) (n : Nat) (l : List Int) (w : World) (hr : Rd w 1 v n (l.map (Value.int .u8))) (hb : Bytes l) (hln : n = l.length) :
    Calls Tryd.prog 8 #[v] w fun e w' => e = .returned (.tuple #[.agg (masterK l).1.toArray, .int .i64 (masterK l).2]) ∧ Keeps w w' := by
  obtain ⟨a, cap, rfl⟩ : ∃ a c, v = .slice a n c := by obtain ⟨_, a, c, e, _⟩ := hr; exact ⟨a, c, e⟩
  have HR := Lib.hid hr; have HB := Lib.hid hb
  have HLN0 := Lib.hid hln
  have hcase : (n < 16 ∧ masterK l = (rootK Z32k Z32k, 2)) ∨ (¬ n < 16 ∧ 64 < n ∧ masterK l = (rootK Z32k Z32k, 2)) ∨ (¬ n < 16 ∧ ¬ 64 < n ∧ masterK l = if keyB (be ((seedH l).take 32)) then (rootK ((seedH l).drop 32) ((seedH l).take 32), 0) else (rootK Z32k Z32k, 1)) := by
    unfold masterK seedOk
    rw [← hln]
    by_cases h1 : n < 16
    · exact .inl ⟨h1, by rw [decide_eq_false (by omega)]; rfl⟩
    · by_cases h2 : 64 < n
      · exact .inr (.inl ⟨h1, h2, by rw [decide_eq_false (by omega)]; rfl⟩)
      · exact .inr (.inr ⟨h1, h2, by rw [decide_eq_true ⟨by omega, by omega⟩]; rfl⟩)
  clear hln
  have z0 : Z32k.length = 32 := rfl
  have HSZ0 := Lib.hid (sz_root z0 z0)
  rcases hcase with ⟨h1, he⟩ | ⟨h1, h2, he⟩ | ⟨h1, h2, he⟩
  · rw [he]
    clear he hr hb
    go_enter Tryd.func8, Tryd.ntmps8
    go_upto_region 1 with (fail)
    refine cu_rows1 (fun W hk hr hs => ?_)
    have HRP := Lib.hid (show Row W w.heap.size 0 (rootK Z32k Z32k) from hr); have HK := Lib.hid hk
    clear hk hr hs
    go_wp2_with (first | (refine cu_build (by kernel_rfl) 30 _ rfl [] ?_ _ built_k0 ?_; focus rfl) | (refine wpList_store_row rfl 30 (.tmp 2) (.tmp 14) rfl w.heap.size 0 rfl (rootK Z32k Z32k) (rootK Z32k Z32k) rfl HRP.out rfl HSZ0.out (rootK_one _ _) ?_; intro w9 hr9 hc9; have H9 := Lib.hid hr9; have HC9 := Lib.hid hc9; clear hr9 hc9))
    exact bodyPost_ret (results_cell_tmpB (p := 2) (t := 3) (ty := 30) rfl _ _ w.heap.size 0 _ _ _ rfl rfl H9.out Tryd.underlying30 rfl HSZ0.out) rfl ⟨rfl, nm_keeps_chg HK.out HC9.out (Nat.le_refl _)⟩
  · rw [he]
    clear he hr hb
    go_enter Tryd.func8, Tryd.ntmps8
    go_upto_region 1 with (fail)
    refine cu_rows1 (fun W hk hr hs => ?_)
    have HRP := Lib.hid (show Row W w.heap.size 0 (rootK Z32k Z32k) from hr); have HK := Lib.hid hk
    clear hk hr hs
    go_wp2_with (first | (refine cu_build (by kernel_rfl) 30 _ rfl [] ?_ _ built_k0 ?_; focus rfl) | (refine wpList_store_row rfl 30 (.tmp 2) (.tmp 14) rfl w.heap.size 0 rfl (rootK Z32k Z32k) (rootK Z32k Z32k) rfl HRP.out rfl HSZ0.out (rootK_one _ _) ?_; intro w9 hr9 hc9; have H9 := Lib.hid hr9; have HC9 := Lib.hid hc9; clear hr9 hc9))
    exact bodyPost_ret (results_cell_tmpB (p := 2) (t := 3) (ty := 30) rfl _ _ w.heap.size 0 _ _ _ rfl rfl H9.out Tryd.underlying30 rfl HSZ0.out) rfl ⟨rfl, nm_keeps_chg HK.out HC9.out (Nat.le_refl _)⟩
  · rw [he]
    clear he hr hb
    have hHl := seedH_length l
    have hHb := seedH_bytes l
    have HHM := Lib.hid (fun (kv : Value) (W : World) (hk : Rd W 1 kv 12 (seedW.map (Value.int .u8))) (hr : Rd W 1 (.slice a n cap) n (l.map (Value.int .u8))) => B64.hmac_any kv _ 12 n seedW l W hk seedW_bytes (by omega) hr HB.out (by omega))
    have hsh : B64.hmac seedW l = seedH l := rfl
    rw [hsh] at HHM
    clear hsh
    generalize seedH l = H at *
    have ht : (H.take 32).length = 32 := by simp [hHl]
    have hd : (H.drop 32).length = 32 := by simp [hHl]
    have HGD := Lib.hid (fun W => (show Calls Tryd.prog 11 #[.agg (rootK (H.drop 32) (H.take 32)).toArray] W _ from good_any (d := 0) (ch := 0) (fg := Z4) rfl hd ht (fun x hx => hHb x (List.mem_of_mem_take hx)) W))
    have HP1 := Lib.hid (root_putD Z32k Z32k (H.take 32) rfl rfl ht)
    have HP2 := Lib.hid (root_putC Z32k (H.drop 32) (H.take 32) rfl hd)
    have HSZ := Lib.hid (sz_root hd ht)
    have HLN := Lib.hid (show (rootK (H.drop 32) (H.take 32)).length = (rootK Z32k Z32k).length by rw [rootK_length hd ht]; rfl)
    have HON := Lib.hid (rootK_one (H.drop 32) (H.take 32))
    generalize keyB (be (H.take 32)) = KB at *
    generalize rootK (H.drop 32) (H.take 32) = KC at *
    go_enter Tryd.func8, Tryd.ntmps8
    go_upto_region 1 with (fail)
    refine cu_rows1 (fun W hk hr hs => ?_)
    have HRP := Lib.hid (show Row W w.heap.size 0 (rootK Z32k Z32k) from hr); have HK := Lib.hid hk
    have HS0 := Lib.hid hs
    clear hk hr hs
    have hcv := Lib.run_convert_bytes_const (P := Tryd.prog) W 38 5 #[.int .u8 66, .int .u8 105, .int .u8 116, .int .u8 99, .int .u8 111, .int .u8 105, .int .u8 110, .int .u8 32, .int .u8 115, .int .u8 101, .int .u8 101, .int .u8 100] 12 12 Tryd.underlying38 Tryd.underlying5
    simp only [List.size_toArray, List.length_cons, List.length_nil, Nat.reduceAdd] at hcv
    have hkc : ∀ o, Keeps w (W.alloc o) := fun o => nm_keeps_alloc HK.out o
    have HKC := Lib.hid hkc
    clear hkc
    go_upto_region 4 with (first
      | (go_at_call 14; refine (HHM.out _ _ (Rd.of_row (hk_marked (seedW.map (Value.int .u8)) 5 _ rfl 12 rfl) rfl (by simp) (by omega) (by unfold maxLen; omega)) (HR.out.keeps (HKC.out _))).mono ?_; rintro e W2 ⟨rfl, hk2⟩; have HK2 := Lib.hid hk2; clear hk2)
      | (refine wpList_store_row rfl 43 (.tmp 4) (.tmp 18) rfl W2.heap.size 0 rfl (List.replicate 64 (Value.int .u8 0)) (H.map (Value.int .u8)) rfl (Row.new _ _ _ rfl) (by rw [List.length_map, hHl]; rfl) (by rw [List.length_map, hHl]; kernel_rfl) (int_oneCell _) ?_; intro W3 hr3 hc3; have HR3 := Lib.hid hr3; have HK3 := Lib.hid (nm_keeps_chg (nm_keeps_alloc (Keeps.refl W2) _) hc3 (Nat.le_refl _)); clear hr3 hc3))
    have hkm : Keeps W W2 := Keeps.trans (nm_keeps_alloc (Keeps.refl W) _) HK2.out
    have hW3 : Keeps w W3 := (HK.out.trans hkm).trans HK3.out
    have HRP3 := Lib.hid (HRP.out.keeps (hkm.trans HK3.out))
    have hps : w.heap.size < W2.heap.size := by have h1 := HS0.out; have h2 := hkm.size; omega
    have hss : W2.heap.size < W3.heap.size := HR3.out.lt (by intro e; have := congrArg List.length e; simp [hHl] at this)
    have HKW := Lib.hid hW3
    clear hkm hW3 HK2 HK3 HK HRP hcv HKC HS0
    generalize W2.heap.size = hh at *
    go_upto_region 5 with (fail)
    refine cu_rows1 (fun W5 hk5 hr5 hs5 => ?_)
    have HR5 := Lib.hid (show Row W5 W3.heap.size 0 (rootK Z32k Z32k) from hr5)
    have HRH := Lib.hid (HR3.out.keeps hk5); have HRP5 := Lib.hid (HRP3.out.keeps hk5); have HKW5 := Lib.hid (HKW.out.trans hk5)
    have hks : W3.heap.size < W5.heap.size := by omega
    have hwk : w.heap.size ≤ W3.heap.size := HKW.out.size
    clear hk5 hr5 hs5 HR3 HRP3 HKW
    generalize W3.heap.size = k at *
    refine wp_region_quiet_tail 3 (by kernel_rfl) (by kernel_rfl) ?_
    simp only [List.take_succ_cons, List.take_zero, List.drop_succ_cons, List.drop_zero]
    repeat (first | go_big_quiet_step (fail) | quiet_step (fail))
    refine wpQuiet_nil ?_
    intro _ hw'
    obtain ⟨nq, hw''⟩ := hw'
    subst hw''
    refine hk_copy rfl (.tmp 20) (.tmp 21) rfl k 39 32 32 rfl (some ⟨hh, 0, none⟩) 32 64 rfl (Nat.le_refl _) (rootK Z32k Z32k) (HR5.out.drewN nq) (by rw [rootK_length rfl rfl]; omega) ((H.take 32).map (Value.int .u8)) (Rd.of_row (by have := (HRH.out.drewN nq).take 32; rwa [← List.map_take] at this) (by simp [hHl]) (by show hh < W5.heap.size; omega) (by omega) (by unfold maxLen; omega)) (int_oneCell _) (fun W6 hr6 hc6 => ?_)
    have hr6 : Row W6 k 0 ((rootK Z32k Z32k).take 39 ++ (H.take 32).map (Value.int .u8) ++ (rootK Z32k Z32k).drop 71) := hr6
    rw [HP1.out] at hr6
    have HR6 := Lib.hid hr6
    have HRH6 := Lib.hid ((HRH.out.drewN nq).chg hc6 (by omega)); have HRP6 := Lib.hid ((HRP5.out.drewN nq).chg hc6 (by omega))
    have HKW6 := Lib.hid (nm_keeps_chg (HKW5.out.trans (Qt.drewN W5 nq).keeps) hc6 hwk)
    have hs6 : k < W6.heap.size := Nat.lt_of_lt_of_le hks (show W5.heap.size ≤ W6.heap.size from hc6.size)
    clear hr6 hc6 HRH HRP5 HKW5 HR5 hks
    go_upto_region 6 with (fail)
    refine wp_region_quiet_tail 3 (by kernel_rfl) (by kernel_rfl) ?_
    simp only [List.take_succ_cons, List.take_zero, List.drop_succ_cons, List.drop_zero]
    repeat (first | go_big_quiet_step (fail) | quiet_step (fail))
    refine wpQuiet_nil ?_
    intro _ hw'
    obtain ⟨nq, hw''⟩ := hw'
    subst hw''
    refine hk_copy rfl (.tmp 24) (.tmp 25) rfl k 6 32 32 rfl (some ⟨hh, 32, none⟩) 32 32 rfl (Nat.le_refl _) (rootK Z32k (H.take 32)) (HR6.out.drewN _) (by rw [rootK_length rfl ht]; omega) ((H.drop 32).map (Value.int .u8)) (Rd.of_row (by have := (HRH6.out.drewN nq).drop 32; rwa [← List.map_drop, Nat.zero_add] at this) (by simp [hHl]) (by show hh < W6.heap.size; omega) (by omega) (by unfold maxLen; omega)) (int_oneCell _) (fun W7 hr7 hc7 => ?_)
    have hr7 : Row W7 k 0 ((rootK Z32k (H.take 32)).take 6 ++ (H.drop 32).map (Value.int .u8) ++ (rootK Z32k (H.take 32)).drop 38) := hr7
    rw [HP2.out] at hr7
    have HR7 := Lib.hid hr7
    have HRP7 := Lib.hid ((HRP6.out.drewN nq).chg hc7 (by omega))
    have HKW7 := Lib.hid (nm_keeps_chg (HKW6.out.trans (Qt.drewN W6 nq).keeps) hc7 hwk)
    clear hr7 hc7 HRH6 HRP6 HKW6 HR6 HP1 HP2
    cases KB
    · go_wp2_with (first | (refine wpList_load_at rfl 30 (.tmp 5) rfl k 0 rfl _ _ HR7.out Tryd.underlying30 rfl HSZ.out ?_) | (go_at_call 11; refine (HGD.out _).mono ?_; rintro e W8 ⟨rfl, hk8⟩; have HK8 := Lib.hid hk8; clear hk8) | (refine cu_build (by kernel_rfl) 30 _ rfl [] ?_ _ built_k0 ?_; focus rfl) | (refine wpList_store_row rfl 30 (.tmp 2) (.tmp 30) rfl w.heap.size 0 rfl (rootK Z32k Z32k) (rootK Z32k Z32k) rfl (HRP7.out.keeps HK8.out) rfl HSZ0.out (rootK_one _ _) ?_; intro w9 hr9 hc9; have H9 := Lib.hid hr9; have HC9 := Lib.hid hc9; clear hr9 hc9))
      exact bodyPost_ret (results_cell_tmpB (p := 2) (t := 3) (ty := 30) rfl _ _ w.heap.size 0 _ _ _ rfl rfl H9.out Tryd.underlying30 rfl HSZ0.out) rfl ⟨rfl, nm_keeps_chg (HKW7.out.trans HK8.out) HC9.out (Nat.le_refl _)⟩
    · go_wp2_with (first | (refine wpList_load_at rfl 30 (.tmp 5) rfl k 0 rfl _ _ (by first | exact HR7.out.keeps HK8.out | exact HR7.out) Tryd.underlying30 rfl HSZ.out ?_) | (go_at_call 11; refine (HGD.out _).mono ?_; rintro e W8 ⟨rfl, hk8⟩; have HK8 := Lib.hid hk8; clear hk8) | (refine wpList_store_row rfl 30 (.tmp 2) (.tmp 31) rfl w.heap.size 0 rfl (rootK Z32k Z32k) KC rfl (HRP7.out.keeps HK8.out) HLN.out HSZ.out HON.out ?_; intro w9 hr9 hc9; have H9 := Lib.hid hr9; have HC9 := Lib.hid hc9; clear hr9 hc9))
      exact bodyPost_ret (results_cell_tmpB (p := 2) (t := 3) (ty := 30) rfl _ _ w.heap.size 0 _ _ _ rfl rfl H9.out Tryd.underlying30 rfl HSZ.out) rfl ⟨rfl, nm_keeps_chg (HKW7.out.trans HK8.out) HC9.out (Nat.le_refl _)⟩
section
variable {P : Program} {ops : Array Oper} {md : Region.Mode} {C : World → Prop} {l n : Nat}
def noDefer (ops : Array Oper) : Bool := ops.all fun o => match o.op with | .defer _ => false | _ => true
theorem noDefer_at (h : noDefer ops = true) {i : Nat} {o : Oper} (hi : ops[i]? = some o) : ∀ c, o.op ≠ .defer c := by
  intro c e
  obtain ⟨hlt, rfl⟩ := Array.getElem?_eq_some_iff.1 hi
  have := Array.all_eq_true.1 h i hlt
  rw [e] at this
  cases this
theorem wpIn_of_quiet_round {o : Oper} {a : Act} {K : Act → Prop} {K' : Act → World → Prop} {Q' : Exit → Act → World → Prop} {w : World} (hd : ∀ c, o.op ≠ .defer c) (hw : C w) (h : ∀ a w', C w' → K a → K' a w')
    (hh : o.quiet P a C K) : o.wpIn (Fence.wide.inRound l) n P a w K' Q' := by
  obtain ⟨v, h1, h2⟩ := hh
  have h3 := h1 w hw
  unfold Oper.quietAt at h3
  unfold Oper.wpIn
  refine ⟨fun f _ => trivial, ?_⟩
  rw [show (Fence.wide.inRound l).round = some l from rfl, Oper.semAt_some _ _ _ hd]
  generalize (execOp a.eval o).run P w = r at *
  cases r with
  | ok x w' =>
    cases x <;> simp only [Oper.quietUpon] at h3 <;> simp only [Oper.uponIn]
    case value u =>
      obtain ⟨e1, e2⟩ := h3
      rw [e1, e2]
      exact h _ _ hw h2
    case skip =>
      obtain ⟨e1, e2⟩ := h3
      rw [e1, ← e2]
      exact h _ _ hw h2
    case enter f args =>
      obtain ⟨e1, hc⟩ := h3
      rw [e1]
      exact ⟨fun hd => (by cases hd), (CallsIn.inRound l (callsIn_wide.2 hc)).mono fun e w'' ⟨he, hw''⟩ => by subst he; exact h _ _ hw'' h2⟩
  | halt x w' => simp only [Oper.quietUpon] at h3
theorem wpOpIn_of_qOp_round {i : Nat} {a : Act} {K : Act → Prop} {K' : Act → World → Prop} {Q' : Exit → Act → World → Prop} {w : World} (hnd : noDefer ops = true) (hC : C w) (h : ∀ a w', C w' → K a → K' a w')
    (hh : qOp P ops C i K a) : wpOpIn (Fence.wide.inRound l) n P ops Q' i K' a w := by
  unfold qOp at hh
  unfold wpOpIn
  split
  · rename_i ho; simp only [ho] at hh; exact h _ _ hC hh
  · rename_i o ho
    simp only [ho] at hh
    split
    · rename_i hw; simp only [hw, if_true] at hh; exact wpIn_of_quiet_round (noDefer_at hnd ho) hC h hh
    · rename_i hw; simp only [hw] at hh; exact ⟨fun f _ => trivial, h _ _ hC hh⟩
theorem wpAnyIn_of_qhead {k g : Nat} {L : Array Bool → Act → Prop} {Q' : Exit → Act → World → Prop} (hnd : noDefer ops = true) (hL : ∀ listed a w, C w → L listed a → wpAnyIn (Fence.wide.inRound l) n P md ops Q' g listed a w) :
    ∀ (f : Nat) (listed : Array Bool) (a : Act) (w : World), C w → wpAnyQL P md ops C k L f listed a → wpAnyIn (Fence.wide.inRound l) n P md ops Q' (f + g) listed a w
  | 0, listed, a, w, hw, h => by rw [Nat.zero_add]; exact hL _ _ _ hw h
  | f + 1, listed, a, w, hw, h => by
    rw [show f + 1 + g = (f + g) + 1 by omega]
    exact ⟨fun h0 => absurd h0 h.1, fun i hi => wpOpIn_of_qOp_round hnd hw (fun a' w' hw' h' => wpAnyIn_of_qhead hnd hL f _ a' w' hw' h') (h.2 i hi).2⟩
theorem wpAnyIn_of_seq {F : Fence} {Q' : Exit → Act → World → Prop} : ∀ (lo : List Oper) (k : Nat) (listed : Array Bool) (a : Act) (w : World), (∀ j, lo[j]? = ops[k + j]?) →
    Region.seqB md ops lo.length k listed = true → wpListIn F n P ops Q' lo a w → wpAnyIn F n P md ops Q' lo.length listed a w
  | [], _, _, _, _, _, hB, h => ⟨by simpa [Region.seqB] using hB, h⟩
  | o :: lo, k, listed, a, w, hl, hB, h => by
    have h0 : ops[k]? = some o := by simpa using (hl 0).symm
    simp only [List.length_cons, Region.seqB, Bool.and_eq_true, decide_eq_true_eq] at hB
    refine ⟨fun h1 => (by rw [hB.1] at h1; cases h1), fun i hi => ?_⟩
    rw [hB.1] at hi
    have hik : i = k := by simpa using hi
    subst hik
    have hw : wpOpIn F n P ops Q' i (wpListIn F n P ops Q' lo) a w := by unfold wpOpIn; simp only [h0]; exact h
    exact wpOpIn_mono (fun a' w' h' => wpAnyIn_of_seq lo (i + 1) _ a' w' (fun j => by have := hl (j + 1); simpa [Nat.add_assoc, Nat.add_comm 1 j] using this) hB.2 h') hw
theorem wpIn_round_tail {id : Nat} {Q : Exit → Act → World → Prop} {a : Act} {w : World} {lo : List Oper} (k : Nat) (hm : P.follows .mixedOrders = true) (hB : Region.lexTailB .any lo.toArray k = true) (hnd : noDefer lo.toArray = true) (hC : C { w with drawn := w.drawn + 1 })
    (h : wpQuiet P lo.toArray C (fun a' => ∀ w', C w' → wpListIn (Fence.wide.inRound l) n P lo.toArray Q (lo.drop k) a' w') (lo.take k) a) : (Code.region id lo.toArray true).wpIn (Fence.wide.inRound l) n P Q a w := by
  simp only [Region.lexTailB, Bool.and_eq_true, decide_eq_true_eq] at hB
  obtain ⟨⟨⟨⟨hsel, hn⟩, hs⟩, hc⟩, hlex⟩ := hB
  have hn' : k < lo.length := by simpa using hn
  have htl : (lo.take k).length = k := by simp; omega
  have hdl : (lo.drop k).length = lo.toArray.size - k := by simp
  have inv0 : HeadInv .any lo.toArray k (Array.replicate lo.toArray.size false) :=
    ⟨by simp, fun j oj _ hl => (by rw [getD_replicate_false] at hl; cases hl), fun t _ ht => getD_in (by simpa using ht) (getD_replicate_false _ _)⟩
  have H := wpAnyQL_lex (md := .any) (g := lo.toArray.size - k) hsel hs hc hn (lo.take k) 0 _ a (fun j hj => by
    have hj' : j < k := by rw [htl] at hj; exact hj
    simp [hj']) (by simpa using htl) inv0 (by rw [htl]; exact hlex) h
  refine wpIn_region_any hm ?_
  have := wpAnyIn_of_qhead (l := l) (n := n) (Q' := Q) (g := lo.toArray.size - k) hnd (fun listed a' w' hw' hL => by
    have := wpAnyIn_of_seq (F := Fence.wide.inRound l) (n := n) (md := .any) (Q' := Q) (lo.drop k) k listed a' w' (fun j => by simp [List.getElem?_drop]) (by rw [hdl]; exact hL.1) (hL.2 w' hw')
    rwa [hdl] at this) _ _ _ { w with drawn := w.drawn + 1 } hC H
  rw [htl, show k + (lo.toArray.size - k) = lo.toArray.size by omega] at this
  exact this
/-- worlds behind draws -/
theorem wpIn_round_quiet {id : Nat} {Q : Exit → Act → World → Prop} {a : Act} {w : World} {lo : List Oper} (k : Nat) (hm : P.follows .mixedOrders = true) (hB : Region.lexTailB .any lo.toArray k = true) (hnd : noDefer lo.toArray = true)
    (h : wpQuiet P lo.toArray (fun w' => ∃ m, w' = w.drewN m) (fun a' => ∀ w', (∃ m, w' = w.drewN m) → wpListIn (Fence.wide.inRound l) n P lo.toArray Q (lo.drop k) a' w') (lo.take k) a) : (Code.region id lo.toArray true).wpIn (Fence.wide.inRound l) n P Q a w :=
  wpIn_round_tail k hm hB hnd ⟨1, rfl⟩ h
end
end Go.Proofs.YtlofddoojkeakaaDoor
namespace Go.Proofs.YtlofddoojkeakaaDoor
set_option linter.unusedVariables false
set_option linter.unusedSimpArgs false
open Go Go.RowKit
section
variable {F : Fence} {n : Nat} {P : Program} {ops : Array Oper} {md : Region.Mode}
def lowEdges (md : Region.Mode) (ops : Array Oper) : Bool := (List.range ops.size).all fun i => match ops[i]? with | some o => o.after.all fun e => !Region.binds md e || decide (e.on < i) | none => true
theorem lowEdges_at (h : lowEdges md ops = true) {i : Nat} {o : Oper} (hi : ops[i]? = some o) (e : Edge) (he : e ∈ o.after) (hb : Region.binds md e = true) : e.on < i := by
  have hlt := (Array.getElem?_eq_some_iff.1 hi).1
  have := List.all_eq_true.1 h i (List.mem_range.2 hlt)
  rw [hi] at this
  simp only at this
  have h2 := Array.all_eq_true_iff_forall_mem.1 this e he
  simpa [hb] using h2
theorem ready_some (h : lowEdges md ops = true) {listed : Array Bool} (hs : listed.size = ops.size) : ∀ i, i < ops.size → listed.getD i true = false → Region.ready md ops listed ≠ [] := by
  intro i
  induction i using Nat.strongRecOn with
  | ind i ih =>
    intro hi hl
    have ho : ops[i]? = some ops[i] := Array.getElem?_eq_getElem hi
    by_cases hall : ∀ e ∈ ops[i].after, Region.binds md e = true → listed.getD e.on false = true
    · intro e
      have : i ∈ Region.ready md ops listed := mem_ready.2 ⟨hl, ops[i], ho, hall⟩
      rw [e] at this
      cases this
    · have : ∃ e, e ∈ ops[i].after ∧ Region.binds md e = true ∧ listed.getD e.on false = false := by
        refine Classical.byContradiction fun hn => hall fun e he hb => ?_
        cases hx : listed.getD e.on false with
        | true => rfl
        | false => exact absurd ⟨e, he, hb, hx⟩ hn
      obtain ⟨e, he, hb, hx⟩ := this
      have hlt := lowEdges_at h ho e he hb
      exact ih e.on hlt (by omega) (getD_in (by omega) hx)
theorem count_set {listed : Array Bool} {i : Nat} (h : listed.getD i true = false) : (listed.setIfInBounds i true).toList.count false + 1 = listed.toList.count false := by
  have hi : i < listed.size := by
    refine Classical.byContradiction fun hn => ?_
    rw [Array.getD_eq_getD_getElem?, Array.getElem?_eq_none (by omega)] at h
    cases h
  have hx : listed[i] = false := by rw [Array.getD_eq_getD_getElem?, Array.getElem?_eq_getElem hi] at h; exact h
  have hx2 : listed.toList[i]'(by simpa using hi) = false := by simpa using hx
  rw [Array.toList_setIfInBounds, List.count_set (by simpa using hi), hx2]
  have : 0 < listed.toList.count false := List.count_pos_iff.2 (by rw [← hx2]; exact List.getElem_mem _)
  simp only [beq_self_eq_true, if_true, show (true == false) = false from rfl, Bool.false_eq_true, if_false]
  omega
theorem wpAnyIn_inv {Q : Exit → Act → World → Prop} {Inv : Array Bool → Act → World → Prop} (hlow : lowEdges md ops = true)
    (hstep : ∀ listed a w i o, listed.size = ops.size → Inv listed a w → ops[i]? = some o → listed.getD i true = false → (∀ e ∈ o.after, Region.binds md e = true → listed.getD e.on false = true) → wpOpIn F n P ops Q i (Inv (listed.setIfInBounds i true)) a w)
    (hend : ∀ listed a w, listed.size = ops.size → Inv listed a w → (∀ i, i < ops.size → listed.getD i false = true) → Q .normal a w) :
    ∀ (fuel : Nat) (listed : Array Bool) (a : Act) (w : World), listed.size = ops.size → listed.toList.count false ≤ fuel → Inv listed a w → wpAnyIn F n P md ops Q fuel listed a w := by
  have hall : ∀ (listed : Array Bool), listed.size = ops.size → Region.ready md ops listed = [] → ∀ i, i < ops.size → listed.getD i false = true := fun listed hs hr i hi => by
    cases hx : listed.getD i false with
    | true => rfl
    | false => exact absurd hr (ready_some hlow hs i hi (getD_in (by omega) hx))
  intro fuel
  induction fuel with
  | zero =>
    intro listed a w hs hc hI
    have hr : Region.ready md ops listed = [] := by
      cases hr : Region.ready md ops listed with
      | nil => rfl
      | cons j r =>
        obtain ⟨hl, _⟩ := mem_ready.1 (show j ∈ Region.ready md ops listed by rw [hr]; exact List.mem_cons_self)
        have := count_set hl
        omega
    exact ⟨hr, hend _ _ _ hs hI (hall _ hs hr)⟩
  | succ fuel ih =>
    intro listed a w hs hc hI
    refine ⟨fun hr => hend _ _ _ hs hI (hall _ hs hr), fun i hi => ?_⟩
    obtain ⟨hl, o, ho, he⟩ := mem_ready.1 hi
    have := count_set hl
    exact wpOpIn_mono (fun a' w' h' => ih _ a' w' (by simpa using hs) (by omega) h') (hstep _ _ _ _ _ hs hI ho hl he)
theorem wpIn_region_inv {id : Nat} {Q : Exit → Act → World → Prop} {a : Act} {w : World} {Inv : Array Bool → Act → World → Prop} (hm : P.follows .mixedOrders = true) (hlow : lowEdges .any ops = true)
    (h0 : Inv (Array.replicate ops.size false) a { w with drawn := w.drawn + 1 })
    (hstep : ∀ listed a w i o, listed.size = ops.size → Inv listed a w → ops[i]? = some o → listed.getD i true = false → (∀ e ∈ o.after, Region.binds .any e = true → listed.getD e.on false = true) → wpOpIn F n P ops Q i (Inv (listed.setIfInBounds i true)) a w)
    (hend : ∀ listed a w, listed.size = ops.size → Inv listed a w → (∀ i, i < ops.size → listed.getD i false = true) → Q .normal a w) : (Code.region id ops true).wpIn F n P Q a w :=
  wpIn_region_any hm (wpAnyIn_inv hlow hstep hend _ _ _ _ (by simp) (by simp) h0)
variable {l : Nat} {o : Oper} {a : Act} {w w' : World} {i : Nat} {K : Act → World → Prop} {Q : Exit → Act → World → Prop}
theorem opIn_value {v : Value} (hi : ops[i]? = some o) (hg : o.guard = none) (hd : ∀ c, o.op ≠ .defer c) (hrun : (execOp a.eval o).run P w = .ok (.value v) w') (h : K (a.put o.dst v) w') : wpOpIn (Fence.wide.inRound l) n P ops Q i K a w := by
  unfold wpOpIn
  simp only [hi, Region.wanted, hg, if_true]
  refine ⟨fun f _ => trivial, ?_⟩
  rw [show (Fence.wide.inRound l).round = some l from rfl, Oper.semAt_some _ _ _ hd, hrun]
  exact h
theorem opIn_skip (hi : ops[i]? = some o) (hg : o.guard = none) (hd : ∀ c, o.op ≠ .defer c) (hrun : (execOp a.eval o).run P w = .ok .skip w') (h : K (a.put o.dst undef) w') : wpOpIn (Fence.wide.inRound l) n P ops Q i K a w := by
  unfold wpOpIn
  simp only [hi, Region.wanted, hg, if_true]
  refine ⟨fun f _ => trivial, ?_⟩
  rw [show (Fence.wide.inRound l).round = some l from rfl, Oper.semAt_some _ _ _ hd, hrun]
  exact h
theorem opIn_enter {f : FuncId} {args : Array Value} (hi : ops[i]? = some o) (hg : o.guard = none) (hd : ∀ c, o.op ≠ .defer c) (hrun : (execOp a.eval o).run P w = .ok (.enter f args) w)
    (hc : Calls P f args w fun e w' => ∃ v, e = .returned v ∧ K (a.put o.dst v) w') : wpOpIn (Fence.wide.inRound l) n P ops Q i K a w := by
  unfold wpOpIn
  simp only [hi, Region.wanted, hg, if_true]
  refine ⟨fun f _ => trivial, ?_⟩
  rw [show (Fence.wide.inRound l).round = some l from rfl, Oper.semAt_some _ _ _ hd, hrun]
  refine ⟨fun hd => (by cases hd), (CallsIn.inRound l (callsIn_wide.2 hc)).mono ?_⟩
  rintro e w'' ⟨v, rfl, h⟩
  exact h
theorem run_load_row (ty : TypeId) (x : Operand) (ho : o.op = .load ty x) (g off : Nat) (hx : a.eval x = .pointer (some ⟨g, off, none⟩)) (cs : List Value) (d : TypeDesc) (hg : Row w g off cs)
    (hu : P.underlying ty = some d) (hd : (match d with | .struct _ | .array _ _ => true | _ => false) = true) (hi : (P.info? ty).map (·.size) = some cs.length) : (execOp a.eval o).run P w = .ok (.value (.agg cs.toArray)) w := by
  unfold execOp
  simp only [ho, hx, Instr.loadAt, Instr.sureAddr, Sem.run_bind, Sem.run_pure, Result.andThen_ok, run_loadVar_at w g off ty cs d hg hu hd hi]
theorem getD_set_if {listed : Array Bool} {i : Nat} (hi : i < listed.size) (j : Nat) : (listed.setIfInBounds i true).getD j false = if i = j then true else listed.getD j false := by
  simp only [Array.getD_eq_getD_getElem?, Array.getElem?_setIfInBounds]
  split
  · simp [hi]
  · rfl
theorem tmps_put (a : Act) (d : Nat) (v : Value) (j : Nat) : (a.put (some d) v).tmps[j]? = if d = j then (if d < a.tmps.size then some v else none) else a.tmps[j]? := by
  simp only [Act.put, Array.getElem?_setIfInBounds]
end
end Go.Proofs.YtlofddoojkeakaaDoor
