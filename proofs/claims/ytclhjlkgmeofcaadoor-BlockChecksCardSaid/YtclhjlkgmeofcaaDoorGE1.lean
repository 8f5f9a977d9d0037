/- strongboxlaw10.BlockRoots: it says yes, whatever the names and the block. -/
import Derived.Test.YtclhjlkgmeofcaaDoorGD6
import Derived.Test.YtclhjlkgmeofcaaDoorGD7
import Derived.Test.YtclhjlkgmeofcaaDoorGD8
import Derived.Test.YtclhjlkgmeofcaaDoorGE0
import Derived.Test.YtclhjlkgmeofcaaDoorGC3
import Derived.Test.YtclhjlkgmeofcaaDoorGB6
import Derived.Test.YtclhjlkgmeofcaaDoorGC2
namespace Go.Proofs.YtclhjlkgmeofcaaDoor
set_option linter.unusedVariables false
set_option linter.unusedSimpArgs false
open Go Go.RowKit

theorem txs_hash32 {S T R : Nat → Prop} {w : World} {v : Value} {l : List TxD} (h : RTxs S T R w v l) : ∀ d ∈ l, d.ins.all (fun i => i.hash.length == 32) = true := by
  obtain ⟨a, cap, rfl, _⟩ := h.any
  intro d hd
  obtain ⟨i, hi, e⟩ := List.getElem_of_mem hd
  obtain ⟨g, off, iv, ov, d', _, _, hd', _, hr⟩ := h.at hi
  rw [List.getElem?_eq_getElem hi, e] at hd'
  cases hd'
  obtain ⟨cs, ps, hx⟩ := hr.ins
  rw [List.all_eq_true]
  intro x hx2
  obtain ⟨k, hk, e⟩ := List.getElem_of_mem hx2
  have hp : ps[k]? = some (ps[k]'(by rw [hx.plen]; exact hk)) := List.getElem?_eq_getElem _
  have := (hx.each k _ x hp (by rw [List.getElem?_eq_getElem hk, e])).1.ok.hashLen
  simpa using this
theorem few_fits {S T R : Nat → Prop} {w : World} {v : Value} {l : List TxD} (h : RTxs S T R w v l) (n : Nat) : ∀ d ∈ (l.take n).map (fewD 4 200), Fits d := fun d hd => by
  obtain ⟨d0, h0, rfl⟩ := List.mem_map.1 hd
  exact fits_few d0 (txs_hash32 h d0 (List.mem_of_mem_take h0))
theorem run_neq_at {P : Program} {o : Oper} {a : Act} {w : World} (t t' : TypeId) (x y : Operand) (ho : o.op = .binOp .neq t x y t') (A B : Array Value) (hx : a.eval x = .agg A) (hy : a.eval y = .agg B) (r : Bool)
    (hE : ∀ W, (Op.equalIn 10000 t (.agg A) (.agg B)).run P W = .ok r W) (hm : P.eqGuardType P.depth t = false) : (execOp a.eval o).run P w = .ok (.value (.bool (!r))) w := by
  unfold execOp
  simp only [ho, hx, hy]
  simp only [Sem.run_bind, Sem.run_pure, run_eqGuard_agg _ _ _ _ _ _ _ hm, run_neq_struct, hE, Result.andThen_ok]
theorem quiet_neq {P : Program} {C : World → Prop} {a : Act} {o : Oper} {K : Act → Prop} (t t' : TypeId) (x y : Operand) (ho : o.op = .binOp .neq t x y t') (A B : Array Value) (hx : a.eval x = .agg A) (hy : a.eval y = .agg B) (r : Bool)
    (hE : ∀ W, (Op.equalIn 10000 t (.agg A) (.agg B)).run P W = .ok r W) (hm : P.eqGuardType P.depth t = false) (hk : K (a.put o.dst (.bool (!r)))) : o.quiet P a C K :=
  ⟨.bool (!r), fun w _ => by
    have h : (execOp a.eval o).run P w = .ok (.value (.bool (!r))) w := by
      unfold execOp
      simp only [ho, hx, hy]
      simp only [Sem.run_bind, Sem.run_pure, run_eqGuard_agg _ _ _ _ _ _ _ hm, run_neq_struct, hE, Result.andThen_ok]
    unfold Oper.quietAt
    rw [h]
    exact ⟨rfl, rfl⟩, hk⟩
theorem take_getD (l : List (List Int)) (i : Nat) (h : i < l.length) : l.take (i + 1) = l.take i ++ [l.getD i []] := by
  rw [List.take_add_one]; simp [List.getD, h]
theorem ownh_of_buf {w W : World} {v : Value} {n : Nat} {l : List (List Int)} (hk : Keeps w W) (hn : l.length = n) (hb : Buf W 32 v n (hCells l)) (ho : HsOk l) (hnew : ∀ g, v.ownBlock = some g → w.heap.size ≤ g) : OwnH w W v l := ⟨hk, by rw [hn]; exact hb, hnew, ho⟩
set_option maxRecDepth 100000 in
set_option maxHeartbeats 8000000 in
theorem roots_any (hs : List (List Int)) (va : Value) (hc : List Value) (hl : hc.length = 68) (h1 : ∀ v ∈ hc, v.oneCell' = true) (tv : Value) (l : List TxD) (w : World) (hh : RH w va hs) (ht : RTxs AnyB AnyB AnyB w tv l) :
    Calls Tryd.prog 3 #[va, .agg (hc ++ [tv]).toArray] w fun e w' => e = .returned (.bool true) ∧ Keeps w w' := by
  have HL := Lib.hid hl; have H1 := Lib.hid h1
  obtain ⟨ta, tc, rfl, htc, htm⟩ := ht.any
  obtain ⟨a, cap, rfl, hcap, hcm⟩ := hh.any
  have HFW := Lib.hid (fun W (hk : Keeps w W) => bfew_loop hc hl h1 (.slice ta l.length tc) l W (ht.keeps hk))
  have HFT := Lib.hid (few_fits ht 12)
  have HSM := Lib.hid hh.small
  have HAW := Lib.hid awake_any
  generalize (l.take 12).map (fewD 4 200) = D at *
  have hsp : ∃ m, m = (hs.take 70).length ∧ ((70 < hs.length ∧ m = 70) ∨ (¬ 70 < hs.length ∧ m = hs.length)) := ⟨_, rfl, by simp; omega⟩
  obtain ⟨m, hm, hcase⟩ := hsp
  have hHH : RH w (.slice a m cap) (hs.take 70) := by
    rcases hcase with ⟨h, rfl⟩ | ⟨h, rfl⟩
    · exact hh.take 70 (by omega)
    · rw [List.take_of_length_le (by omega)]
      exact hh
  have HHH := Lib.hid hHH; have HM := Lib.hid hm
  clear hHH hm hl h1 ht hh
  generalize hs.take 70 = IS at *
  rcases hcase with ⟨hb, rfl⟩ | ⟨hb, rfl⟩
  all_goals
    go_enter Tryd.func3, Tryd.ntmps3
    go_upto_region 1 with (fail)
    refine wp_rows1 (fun W0 hk hr1 hsz => ?_)
    have hr1 : Row W0 w.heap.size 0 (hc ++ [.slice ta l.length tc]) := by simpa using hr1
    obtain ⟨p, hp⟩ : ∃ p, p = w.heap.size := ⟨_, rfl⟩
    rw [← hp] at hr1 hsz ⊢
    have HP := Lib.hid hp; have HK := Lib.hid hk; have HR1 := Lib.hid hr1
    clear hp hk hr1 hsz
    go_upto_region 5 with (go_at_call 6; refine (HAW.out _).mono ?_; rintro e W2 ⟨rfl, hk2⟩; have HK2 := Lib.hid hk2; clear hk2)
    try clear hb
    go_upto_region 6 with (first | ((with_reducible refine gate_load 30 (.tmp 3) ?_); refine wpList_load_at rfl 30 (.tmp 3) rfl p 0 rfl _ _ (HR1.out.keeps HK2.out) Tryd.underlying30 rfl (sz_blk _ _ HL.out) ?_) | (go_at_call 7; refine (HFW.out _ (HK.out.trans HK2.out)).mono ?_; rintro e W3 ⟨tv3, B3, hb3, hn3, rfl, hk3, hr3⟩; have HB3 := Lib.hid hb3; have HN3 := Lib.hid hn3; clear hb3 hn3; have HK3 := Lib.hid hk3; have HT3 := Lib.hid hr3; clear hk3 hr3) | ((with_reducible refine gate_store 30 (.tmp 3) (.tmp 18) ?_); refine wpList_store_row rfl 30 (.tmp 3) (.tmp 18) rfl p 0 rfl (hc ++ [.slice ta l.length tc]) (hc ++ [tv3]) rfl ((HR1.out.keeps HK2.out).keeps HK3.out) (by rw [List.length_append, List.length_append]; rfl) (sz_blk _ _ HL.out) (blk_one H1.out (by obtain ⟨_, _, e, _⟩ := HT3.out.any; rw [e]; rfl)) ?_; intro W9 hr9 hc9; have HR9 := Lib.hid hr9; have HC9 := Lib.hid hc9; clear hr9 hc9))
    have hp := HP.out
    have hkw := HK.out.size
    have hpl : p < W0.heap.size := HR1.out.lt (by simp)
    have hk9 : Keeps w W9 := keeps_chg ((HK.out.trans HK2.out).trans HK3.out) HC9.out (by omega)
    have ht9 : RTxs (Btw B3 W3.heap.size) (Btw B3 W3.heap.size) (Btw B3 W3.heap.size) W9 tv3 D := by
      have hb3 := HB3.out
      have h2 := HK2.out.size
      exact HT3.out.chg HC9.out (fun g e e2 => by have := HN3.out g e; omega) (fun g e e2 => by have := e.1; omega) (fun g e e2 => by have := e.1; omega) (fun g e e2 => by have := e.1; omega)
    have hS9 : ∀ g, Btw B3 W3.heap.size g → g < W9.heap.size := fun g e => Nat.lt_of_lt_of_le e.2 HC9.out.size
    have HK9 := Lib.hid hk9; have HT9 := Lib.hid ht9; have HS9 := Lib.hid hS9
    clear hk9 ht9 hS9 hp hkw hpl HT3 HK2 HK3 HC9 HR1 HB3 HN3
    have HIS := Lib.hid (HHH.out.keeps HK9.out)
    have hsm : IS.length * 32 ≤ 140737488355328 := HHH.out.small
    first
      | (have e0 : 70 = IS.length := HM.out
         clear e0
         generalize (70 : Nat) = N at *)
      | (generalize hs.length = N at *)
    have hNI : N = IS.length := HM.out
    subst hNI
    go_upto_region 8 with (fail)
    go_loopw [5, 21] (fun v c wr => ∃ i : Nat, i ≤ IS.length ∧ c = .int .i64 i ∧ Hid (OwnH W9 wr v (IS.take i))) (fun _ c _ => (IS.length - intOf c).toNat)
    case atStart => exact ⟨0, by omega, rfl, Lib.hid (OwnH.nil _)⟩
    case round =>
      obtain ⟨i, hi, rfl, HOW⟩ := hrel
      have hil : (IS.take i).length = i := by simp; omega
      obtain ⟨va, vc, hv⟩ := HOW.out.any
      rw [hil] at hv
      subst hv
      have HIL := Lib.hid hil
      clear hil
      by_cases hlt : i < IS.length
      · obtain ⟨g, off, rfl, hg, hrow⟩ := (HIS.out.keeps HOW.out.keeps).at hlt
        obtain ⟨hxl, hxb⟩ := HIS.out.ok.getD hlt
        have HTK := Lib.hid (take_getD IS i hlt)
        have HROW := Lib.hid hrow; have HXL := Lib.hid hxl; have HXB := Lib.hid hxb
        clear hrow hxl hxb
        generalize IS.getD i [] = X at *
        go_upto_region 10 with (first | ((with_reducible refine gate_load 24 (.tmp 23) ?_); refine wpList_load_at rfl 24 (.tmp 23) rfl g (off + i * 32) rfl _ _ HROW.out Tryd.underlying24 rfl (sz_h _ HXL.out) ?_) | ((with_reducible refine gate_store 24 (.tmp 7) (.tmp 24) ?_); refine wpList_store_row rfl 24 (.tmp 7) (.tmp 24) rfl _ 0 rfl z32 (X.map (Value.int .u8)) rfl (Row.new _ _ _ rfl) (by rw [List.length_map, HXL.out]; rfl) (sz_h _ HXL.out) (int_oneCell _) ?_; intro W5 hr5 hc5; have HR5 := Lib.hid hr5; have HC5 := Lib.hid hc5; clear hr5 hc5))
        have HK5 := Lib.hid (keeps_chg (keeps_alloc (Keeps.refl wr) _) HC5.out (Nat.le_refl _))
        obtain ⟨q, hq⟩ : ∃ q, q = wr.heap.size := ⟨_, rfl⟩
        rw [← hq] at HR5 ⊢
        clear hq HC5
        go_wp2_with (first | ((with_reducible refine gate_load 24 (.tmp 7) ?_); refine wpList_load_at rfl 24 (.tmp 7) rfl q 0 rfl _ _ HR5.out Tryd.underlying24 rfl (sz_h _ HXL.out) ?_) | (refine wpList_buildSlice1 rfl 33 23 _ rfl 32 32 Tryd.underlying33 h32_info h32_zero (by decide) (X.map (Value.int .u8)) rfl (by rw [List.length_map, HXL.out]) ?_) | (at_builtin; refine ownh_append1 rfl _ _ rfl HOW.out HIL.out HK5.out rfl HXL.out HXB.out 1 23 _ rfl rfl (by omega) ?_; intro v9 w9 h9; have H9 := Lib.hid h9; clear h9))
        have h10 := H9.out
        rw [← HTK.out] at h10
        have H10 := Lib.hid h10
        clear h10
        go_roundw
        case rel => exact ⟨i + 1, by omega, by go_num, H10⟩
        case measure => simp [intOf]; omega
      · obtain rfl : IS.length = i := by omega
        rw [List.take_length] at HOW
        clear HIL hlt hi
        have HKW := Lib.hid HOW.out.keeps
        have HRW : Hid (RH wr (.slice va IS.length vc) IS) := Lib.hid (HOW.out.rh hsm)
        clear HOW
        have HISW := Lib.hid (HIS.out.keeps HKW.out)
        obtain ⟨i0, z0, hi0, hz0, hz1, hz2, hz3⟩ := info2_any hash_info hash_zero
        have HI := Lib.hid hi0; have HZ0 := Lib.hid hz0; have HZ1 := Lib.hid hz1; have HZ2 := Lib.hid hz2; have HZ3 := Lib.hid hz3
        clear hi0 hz0 hz1 hz2 hz3
        generalize wr = wA at *
        go_upto_region 13 with (at_builtin; refine wpList_append_buf rfl _ _ 22 22 rfl 24 i0 z0 32 32 Tryd.underlying22 HI.out HZ0.out HZ1.out HZ2.out HZ3.out (by decide) (.slice (some ⟨wA.heap.size, 0, none⟩) 0 0) 0 [] rfl (Buf.made _) _ rfl IS.length (hCells IS) ((HISW.out.rd.keeps (keeps_alloc (Keeps.refl _) _)).src Tryd.underlying22 (hCells_one IS)) (by unfold maxLen; omega) (by omega) ?_; intro vn wn hbn hcn hsn _; have HBN := Lib.hid hbn; have HCN := Lib.hid hcn; have HSN := Lib.hid hsn; clear hbn hcn hsn)
        have hbn := HBN.out
        rw [Nat.zero_add, List.nil_append] at hbn
        obtain ⟨na, nc, rfl, -⟩ := hbn.any
        have hkn : Keeps wA wn := Below.trans (keeps_alloc (Keeps.refl wA) _) (HCN.out.below (by simp) (fun k hk e => by simp [Value.ownBlock] at e; omega))
        have hrn : RH wn (.slice na IS.length nc) IS := ⟨hbn.rd, HHH.out.ok, hsm⟩
        have hrw := HRW.out.keeps hkn
        have hk9n := HKW.out.trans hkn
        have hrb := HR9.out.keeps hk9n
        have htx := HT9.out.keeps hk9n
        have hisn := HISW.out.keeps hkn
        have HM1 := Lib.hid (fun W (hk : Keeps wn W) => merkle_any IS W (.slice na IS.length nc) (hrn.keeps hk))
        have HM2 := Lib.hid (fun W (hk : Keeps wn W) => rmerkle_any IS.length IS (Nat.le_refl _) (.slice va IS.length vc) W (hrw.keeps hk))
        have HR1 := Lib.hid (fun W (hk : Keeps wn W) => root_any merkle_any hc HL.out _ _ _ tv3 D HFT.out W (htx.keeps hk) (fun g e => Nat.lt_of_lt_of_le (HS9.out g e) (hk9n.trans hk).size))
        have HR2 := Lib.hid (fun W (hk : Keeps wn W) => rroot_any hc HL.out _ _ _ tv3 D HFT.out W (htx.keeps hk))
        have HKN := Lib.hid (HK9.out.trans hk9n)
        have HRN := Lib.hid hrn; have HRB := Lib.hid hrb; have HIN := Lib.hid hisn
        have hm1 := merkD_ok IS HHH.out.ok
        have hm2 := merkD_ok (D.map widD) (wids_ok D)
        have HE1 := Lib.hid (fun W => hash_equal W (merkD IS) (merkD IS) hm1.1 hm1.2 hm1.1 hm1.2)
        have HE2 := Lib.hid (fun W => hash_equal W (merkD (D.map widD)) (merkD (D.map widD)) hm2.1 hm2.2 hm2.1 hm2.2)
        simp only [decide_true] at HE1 HE2
        clear hbn hkn hrn hrw hk9n hrb htx hisn hm1 hm2 HBN HCN HSN HRW HKW HISW HIS HT9 HS9 HR9 HFT HFW HAW HI HZ0 HZ1 HZ2 HZ3 HK9 HK
        generalize merkD IS = M1 at *
        generalize merkD (D.map widD) = M2 at *
        refine wp_region_head (S := fun W => Hid ((fun W => Keeps wn W) W)) 11 (by kernel_rfl) (by kernel_rfl) ?_ (fun hHeld => ?_)
        focus exact Lib.hid (keeps_drew (Keeps.refl _))
        refine wpAnyHL_take (i := 0) (oi := ?_) (v := ?_) ?_ ?_ ?_ ?_ ?_ ?_ ?_ ?_ ?_ (Or.inl ⟨?_, ?_⟩) ?_ ?_
        rotate_left 2
        focus (simp only [List.getElem?_toArray, List.getElem?_cons_succ, List.getElem?_cons_zero]; exact rfl)
        focus kernel_rfl
        focus kernel_rfl
        focus kernel_rfl
        focus kernel_rfl
        focus kernel_rfl
        focus kernel_rfl
        focus kernel_rfl
        focus (exact fun _ _ _ h => h)
        focus rfl
        focus ((intro wSw hSw; (have hSw := hSw.out); (try dsimp only at hSw); go_simp) <;> with_reducible rfl)
        focus assumption
        try simp only [Act.put, List.setIfInBounds_toArray, List.set_cons_zero, List.set_cons_succ]
        refine wpAnyHL_take (i := 2) (oi := ?_) (v := ?_) ?_ ?_ ?_ ?_ ?_ ?_ ?_ ?_ ?_ (Or.inl ⟨?_, ?_⟩) ?_ ?_
        rotate_left 2
        focus (simp only [List.getElem?_toArray, List.getElem?_cons_succ, List.getElem?_cons_zero]; exact rfl)
        focus kernel_rfl
        focus kernel_rfl
        focus kernel_rfl
        focus kernel_rfl
        focus kernel_rfl
        focus kernel_rfl
        focus kernel_rfl
        focus (exact fun _ _ _ h => h)
        focus rfl
        focus ((intro wSw hSw; (have hSw := hSw.out); (try dsimp only at hSw); go_simp) <;> with_reducible rfl)
        focus assumption
        try simp only [Act.put, List.setIfInBounds_toArray, List.set_cons_zero, List.set_cons_succ]
        refine wpAnyHL_one (i := 1) (o := ?_) (by kernel_rfl) (by kernel_rfl) ?_ ?_
        rotate_left 1
        focus (simp only [List.getElem?_toArray, List.getElem?_cons_succ, List.getElem?_cons_zero]; exact rfl)
        go_wp2_with (go_at_call 8; refine (HM1.out _ hHeld.out).mono ?_; rintro e W11 ⟨rfl, hk11⟩; have HK11 := Lib.hid hk11; clear hk11)
        try dsimp only [StepQ]
        refine ⟨?_, fun hHeld => ?_⟩
        focus (exact Lib.hid (hHeld.out.trans HK11.out))
        try simp only [Act.put, List.setIfInBounds_toArray, List.set_cons_zero, List.set_cons_succ]
        refine wpAnyHL_one (i := 3) (o := ?_) (by kernel_rfl) (by kernel_rfl) ?_ ?_
        rotate_left 1
        focus (simp only [List.getElem?_toArray, List.getElem?_cons_succ, List.getElem?_cons_zero]; exact rfl)
        go_wp2_with (go_at_call 9; refine (HM2.out _ hHeld.out).mono ?_; rintro e W12 ⟨rfl, hk12⟩; have HK12 := Lib.hid hk12; clear hk12)
        try dsimp only [StepQ]
        refine ⟨?_, fun hHeld => ?_⟩
        focus (exact Lib.hid (hHeld.out.trans HK12.out))
        try simp only [Act.put, List.setIfInBounds_toArray, List.set_cons_zero, List.set_cons_succ]
        refine wpAnyHL_take (i := 4) (oi := ?_) (v := ?_) ?_ ?_ ?_ ?_ ?_ ?_ ?_ ?_ ?_ (Or.inl ⟨?_, ?_⟩) ?_ ?_
        rotate_left 2
        focus (simp only [List.getElem?_toArray, List.getElem?_cons_succ, List.getElem?_cons_zero]; exact rfl)
        focus kernel_rfl
        focus kernel_rfl
        focus kernel_rfl
        focus kernel_rfl
        focus kernel_rfl
        focus kernel_rfl
        focus kernel_rfl
        focus (exact fun _ _ _ h => h)
        focus rfl
        focus (intro wSw hSw; (have hSw := hSw.out); (refine run_neq_at 24 24 (.tmp 34) (.tmp 36) ?_ _ _ ?_ ?_ true HE1.out (by kernel_rfl)) <;> rfl)
        focus assumption
        try simp only [Act.put, List.setIfInBounds_toArray, List.set_cons_zero, List.set_cons_succ]
        refine wpAnyHL_take (i := 5) (oi := ?_) (v := ?_) ?_ ?_ ?_ ?_ ?_ ?_ ?_ ?_ ?_ (Or.inl ⟨?_, ?_⟩) ?_ ?_
        rotate_left 2
        focus (simp only [List.getElem?_toArray, List.getElem?_cons_succ, List.getElem?_cons_zero]; exact rfl)
        focus kernel_rfl
        focus kernel_rfl
        focus kernel_rfl
        focus kernel_rfl
        focus kernel_rfl
        focus kernel_rfl
        focus kernel_rfl
        focus (exact fun _ _ _ h => h)
        focus rfl
        focus ((intro wSw hSw; (have hSw := hSw.out); (try dsimp only at hSw); go_simp) <;> with_reducible rfl)
        focus assumption
        try simp only [Act.put, List.setIfInBounds_toArray, List.set_cons_zero, List.set_cons_succ]
        refine wpAnyHL_take (i := 6) (oi := ?_) (v := ?_) ?_ ?_ ?_ ?_ ?_ ?_ ?_ ?_ ?_ (Or.inl ⟨?_, ?_⟩) ?_ ?_
        rotate_left 2
        focus (simp only [List.getElem?_toArray, List.getElem?_cons_succ, List.getElem?_cons_zero]; exact rfl)
        focus kernel_rfl
        focus kernel_rfl
        focus kernel_rfl
        focus kernel_rfl
        focus kernel_rfl
        focus kernel_rfl
        focus kernel_rfl
        focus (exact fun _ _ _ h => h)
        focus rfl
        focus (intro wSw hSw; (have hSw := hSw.out); (refine run_load_row 30 (.tmp 3) ?_ p 0 ?_ _ _ (HRB.out.keeps hSw) Tryd.underlying30 rfl (sz_blk _ _ HL.out)) <;> rfl)
        focus assumption
        try simp only [Act.put, List.setIfInBounds_toArray, List.set_cons_zero, List.set_cons_succ]
        refine wpAnyHL_take (i := 8) (oi := ?_) (v := ?_) ?_ ?_ ?_ ?_ ?_ ?_ ?_ ?_ ?_ (Or.inl ⟨?_, ?_⟩) ?_ ?_
        rotate_left 2
        focus (simp only [List.getElem?_toArray, List.getElem?_cons_succ, List.getElem?_cons_zero]; exact rfl)
        focus kernel_rfl
        focus kernel_rfl
        focus kernel_rfl
        focus kernel_rfl
        focus kernel_rfl
        focus kernel_rfl
        focus kernel_rfl
        focus (exact fun _ _ _ h => h)
        focus rfl
        focus (intro wSw hSw; (have hSw := hSw.out); (refine run_load_row 30 (.tmp 3) ?_ p 0 ?_ _ _ (HRB.out.keeps hSw) Tryd.underlying30 rfl (sz_blk _ _ HL.out)) <;> rfl)
        focus assumption
        try simp only [Act.put, List.setIfInBounds_toArray, List.set_cons_zero, List.set_cons_succ]
        refine wpAnyHL_one (i := 7) (o := ?_) (by kernel_rfl) (by kernel_rfl) ?_ ?_
        rotate_left 1
        focus (simp only [List.getElem?_toArray, List.getElem?_cons_succ, List.getElem?_cons_zero]; exact rfl)
        go_wp2_with (go_at_call 10; refine (HR1.out _ hHeld.out).mono ?_; rintro e W13 ⟨rfl, hk13⟩; have HK13 := Lib.hid hk13; clear hk13)
        try dsimp only [StepQ]
        refine ⟨?_, fun hHeld => ?_⟩
        focus (exact Lib.hid (hHeld.out.trans HK13.out))
        try simp only [Act.put, List.setIfInBounds_toArray, List.set_cons_zero, List.set_cons_succ]
        refine wpAnyHL_one (i := 9) (o := ?_) (by kernel_rfl) (by kernel_rfl) ?_ ?_
        rotate_left 1
        focus (simp only [List.getElem?_toArray, List.getElem?_cons_succ, List.getElem?_cons_zero]; exact rfl)
        go_wp2_with (go_at_call 11; refine (HR2.out _ hHeld.out).mono ?_; rintro e W14 ⟨rfl, hk14⟩; have HK14 := Lib.hid hk14; clear hk14)
        try dsimp only [StepQ]
        refine ⟨?_, fun hHeld => ?_⟩
        focus (exact Lib.hid (hHeld.out.trans HK14.out))
        try simp only [Act.put, List.setIfInBounds_toArray, List.set_cons_zero, List.set_cons_succ]
        refine wpAnyHL_take (i := 10) (oi := ?_) (v := ?_) ?_ ?_ ?_ ?_ ?_ ?_ ?_ ?_ ?_ (Or.inl ⟨?_, ?_⟩) ?_ ?_
        rotate_left 2
        focus (simp only [List.getElem?_toArray, List.getElem?_cons_succ, List.getElem?_cons_zero]; exact rfl)
        focus kernel_rfl
        focus kernel_rfl
        focus kernel_rfl
        focus kernel_rfl
        focus kernel_rfl
        focus kernel_rfl
        focus kernel_rfl
        focus (exact fun _ _ _ h => h)
        focus rfl
        focus (intro wSw hSw; (have hSw := hSw.out); (refine run_neq_at 24 24 (.tmp 40) (.tmp 42) ?_ _ _ ?_ ?_ true HE2.out (by kernel_rfl)) <;> rfl)
        focus assumption
        try simp only [Act.put, List.setIfInBounds_toArray, List.set_cons_zero, List.set_cons_succ]
        refine wpAnyHL_done (by kernel_rfl) ?_
        try simp only [List.drop_succ_cons, List.drop_zero]
        go_wp2
        have HKZ := Lib.hid hHeld.out
        clear hHeld HM1 HM2 HR1 HR2 HRB HE1 HE2 HK11 HK12 HK13 HK14
        generalize W14 = WZ at *
        go_loopw [47] (fun c wr => ∃ i : Nat, i ≤ IS.length ∧ c = .int .i64 i ∧ Hid (Keeps wn wr)) (fun c _ => (IS.length - intOf c).toNat)
        case atStart => exact ⟨0, by omega, rfl, HKZ⟩
        case round =>
          obtain ⟨i, hi, rfl, HKR⟩ := hrel
          by_cases hlt : i < IS.length
          · obtain ⟨g1, o1, rfl, hg1, hrow1⟩ := (HRN.out.keeps HKR.out).at hlt
            obtain ⟨g2, o2, rfl, hg2, hrow2⟩ := (HIN.out.keeps HKR.out).at hlt
            obtain ⟨hxl, hxb⟩ := HHH.out.ok.getD hlt
            have HX1 := Lib.hid hrow1; have HX2 := Lib.hid hrow2
            have HE := Lib.hid (fun W => hash_equal W (IS.getD i []) (IS.getD i []) hxl hxb hxl hxb)
            have HZX := Lib.hid (sz_h _ hxl)
            simp only [decide_true] at HE
            clear hrow1 hrow2 hxb hxl
            generalize (IS.getD i []).map (Value.int .u8) = X at *
            go_upto_region 18 with (fail)
            refine wp_region_quiet_below (by kernel_rfl) (by kernel_rfl) ?_
            repeat (first | go_big_quiet_skip | (refine BigFrame.wpQuiet_want (by kernel_rfl) (fun K hK => quiet_load_row 24 (.tmp 52) (by with_reducible rfl) g1 (o1 + i * 32) rfl X _ (HX1.out).cls Tryd.underlying24 rfl (HZX.out) (hK _ ?_)); simp only [Act.put, List.setIfInBounds_toArray, List.set_cons_zero, List.set_cons_succ]) | (refine BigFrame.wpQuiet_want (by kernel_rfl) (fun K hK => quiet_load_row 24 (.tmp 56) (by with_reducible rfl) g2 (o2 + i * 32) rfl X _ (HX2.out).cls Tryd.underlying24 rfl (HZX.out) (hK _ ?_)); simp only [Act.put, List.setIfInBounds_toArray, List.set_cons_zero, List.set_cons_succ]) | (refine BigFrame.wpQuiet_want (by kernel_rfl) (fun K hK => quiet_neq 24 24 (.tmp 53) (.tmp 57) (by with_reducible rfl) _ _ rfl rfl _ (HE.out) (by kernel_rfl) (hK _ ?_)); simp only [Act.put, List.setIfInBounds_toArray, List.set_cons_zero, List.set_cons_succ]) | go_big_quiet_step (fail) | quiet_step (fail))
            refine wpQuiet_nil ?_
            intro _ hw'
            obtain ⟨⟨dq, osq⟩, hw''⟩ := hw'
            subst hw''
            have hkq := below_regrown wr dq osq
            generalize Go.Sort.grow (redrawn wr dq) osq = wq at *
            have HKQ := Lib.hid (HKR.out.trans hkq)
            clear hkq
            go_wp2
            go_roundw
            case rel => exact ⟨i + 1, by omega, by go_num, HKQ⟩
            case measure => simp [intOf]; omega
          · obtain rfl : IS.length = i := by omega
            go_wp2
            go_ret
            exact ⟨rfl, HKN.out.trans HKR.out⟩
end Go.Proofs.YtclhjlkgmeofcaaDoor
