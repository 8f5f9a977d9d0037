/- strongboxlaw10.BlockReads: the walk. -/
import Derived.Test.YtcodpdpeklammaaDoorGD8
import Derived.Test.YtcodpdpeklammaaDoorGD9
import Derived.Test.YtcodpdpeklammaaDoorGE1
import Derived.Test.YtcodpdpeklammaaDoorGE3
import Derived.Test.YtcodpdpeklammaaDoorGE4
namespace Go.Proofs.YtcodpdpeklammaaDoor
set_option linter.unusedVariables false
set_option linter.unusedSimpArgs false
open Go Go.RowKit

/-- what is read, and the error's number -/
def decR (l : List Int) : (HdD × List TxD) × Int := match decBlk l with
  | .ok x => (x, 0)
  | .error c => ((hd0 0, []), c)
theorem decR_ok {l : List Int} {x : HdD × List TxD} (h : decBlk l = .ok x) : decR l = (x, 0) := by unfold decR; rw [h]
theorem decR_err {l : List Int} {c : Int} (h : decBlk l = .error c) : decR l = ((hd0 0, []), c) := by unfold decR; rw [h]
theorem rtxs_nil (S T R : Nat → Prop) (W : World) : RTxs S T R W (.slice none 0 0) [] := ⟨[], [], ⟨rfl, none, 0, rfl, Nat.le_refl _, by unfold maxLen; omega, fun _ => ⟨rfl, rfl⟩, fun ad e _ => by cases e⟩, rfl, fun i p d hp => by simp at hp, by simp⟩
def DecRP (H : HdD) (T : List TxD) (E : Int) (w : World) (r : Ending) (W : World) : Prop :=
  Keeps w W ∧ HdOk H ∧ ∃ a c, r = .returned (.tuple #[.agg (blkCells H (.slice a T.length c)).toArray, .int .i64 E]) ∧ RTxs AnyB AnyB AnyB W (.slice a T.length c) T
theorem decRP_of {l : List Int} {w : World} {r : Ending} {W : World} (h : BkDecP l w r W) : DecRP (decR l).1.1 (decR l).1.2 (decR l).2 w r W := by
  obtain ⟨hk, ⟨h, txs, tv, base, hd, rfl, hok, _, ht⟩ | ⟨c, hd, _, rfl⟩⟩ := h
  · rw [decR_ok hd]
    obtain ⟨a, cap, rfl, _⟩ := ht.any
    exact ⟨hk, hok, a, cap, rfl, ht.mono (fun _ _ => trivial) (fun _ _ => trivial) (fun _ _ => trivial)⟩
  · rw [decR_err hd]
    exact ⟨hk, hd0_ok, none, 0, rfl, rtxs_nil _ _ _ _⟩
theorem bkdec_r (v : Value) (l : List Int) (N : Nat) (hN : N = l.length) (w : World) (hr : Rd w 1 v N (l.map (Value.int .u8))) (hn : N ≤ 5000) (hb : Bytes l) : Calls Tryd.prog 6 #[v] w (DecRP (decR l).1.1 (decR l).1.2 (decR l).2 w) := by
  subst hN
  exact (bkdec_any v l w hr (by omega) hb).mono fun _ _ h => decRP_of h
theorem rkdec_r (S : Nat → Prop) (v : Value) (l : List Int) (w : World) (h : RB S w v l) : Calls Tryd.prog 7 #[v] w (DecRP (decR l).1.1 (decR l).1.2 (decR l).2 w) :=
  (rkdec_any S v l w h).mono fun _ _ h => decRP_of h
/-- what DecodeHeader reads, and its error's number -/
def dhR (l : List Int) : HdD × Int := if l.length = 80 then (headOf l, 0) else if l.length < 80 then (hd0 0, 4) else (hd0 0, 3)
theorem dhR_cases (l : List Int) (N : Nat) (hN : N = l.length) : (N < 80 ∧ (dhR l).1 = hd0 0 ∧ (dhR l).2 = 4) ∨ (80 < N ∧ (dhR l).1 = hd0 0 ∧ (dhR l).2 = 3) ∨ (¬ N < 80 ∧ ¬ 80 < N ∧ (dhR l).1 = headOf l ∧ (dhR l).2 = 0) := by
  subst hN
  by_cases h : l.length = 80
  · exact .inr (.inr ⟨by omega, by omega, by unfold dhR; rw [if_pos h], by unfold dhR; rw [if_pos h]⟩)
  · by_cases h2 : l.length < 80
    · exact .inl ⟨h2, by unfold dhR; rw [if_neg h, if_pos h2], by unfold dhR; rw [if_neg h, if_pos h2]⟩
    · exact .inr (.inl ⟨by omega, by unfold dhR; rw [if_neg h, if_neg h2], by unfold dhR; rw [if_neg h, if_neg h2]⟩)
theorem dhead_r (v : Value) (l : List Int) (N : Nat) (hN : N = l.length) (w : World) (hr : Rd w 1 v N (l.map (Value.int .u8))) (hn : N ≤ 5000) (hb : Bytes l) : Calls Tryd.prog 10 #[v] w fun r W => Keeps w W ∧ HdOk (dhR l).1 ∧ r = .returned (.tuple #[.agg (hdCells (dhR l).1).toArray, .int .i64 (dhR l).2]) := by
  subst hN
  refine (dhead_any v l w hr (by omega) hb).mono ?_
  rintro r W ⟨hk, h, e, rfl, hok, ⟨hl, rfl, rfl⟩ | ⟨hl, rfl, rfl⟩ | ⟨hl, rfl, rfl⟩⟩
  · unfold dhR; rw [if_pos hl]; exact ⟨hk, hok, rfl⟩
  · unfold dhR; rw [if_neg (by omega), if_pos hl]; exact ⟨hk, hok, rfl⟩
  · unfold dhR; rw [if_neg (by omega), if_neg (by omega)]; exact ⟨hk, hok, rfl⟩
theorem spare_rd {W : World} {q N : Nat} {zs : List Int} (hr : Row W q 0 ((spareL zs N).map (Value.int .u8))) (hl : q < W.heap.size) (hz : N = zs.length) (hN : N ≤ 5000) : Rd W 1 (.slice (some ⟨q, 0, none⟩) N (N + 9)) N (zs.map (Value.int .u8)) :=
  Rd.of_row (by
    have := hr.take N
    rw [← List.map_take, spareL, List.take_append_of_le_length (by omega), List.take_of_length_le (by omega)] at this
    exact this) (by simp; omega) hl (by omega) (by unfold maxLen; omega)
theorem wpList_build_on {P : Program} {ops : Array Oper} {rest : List Oper} {o : Oper} {a : Act} {w : World} {Q : Exit → Act → World → Prop} (hw : Region.wanted o (yielded ops a.tmps) = true) (t : TypeId) (parts : Array (Nat × Operand)) (ho : o.op = .build t parts) (vs : List (Nat × Value)) (hv : (parts.map fun (i, x) => (i, a.eval x)).toList = vs) (out : Array Value)
    (hb : P.built t vs = some out) (h : wpList P ops Q rest (a.put o.dst (.agg out)) w) : wpList P ops Q (o :: rest) a w := by
  subst hv
  refine BigFrame.wpList_want hw fun _ hK => ?_
  unfold Oper.wp execOp
  simp only [ho, Sem.run_bind, run_build w t _ _ hb, Result.andThen_ok]
  exact hK _ _ h
set_option maxRecDepth 100000 in
set_option maxHeartbeats 8000000 in
theorem reads_any (v : Value) (l0 : List Int) (w : World) (h : RB AnyB w v l0) : Calls Tryd.prog 3 #[v] w fun e w' => e = .returned (.bool true) ∧ Keeps w w' := by
  obtain ⟨a, cap, rfl, hcap, hcm, -⟩ := h.any
  have hsm := h.small
  have hsp : ∃ (l : List Int) (N : Nat), N = l.length ∧ RB AnyB w (.slice a N cap) l ∧ N ≤ 5000 ∧ ((5000 < l0.length ∧ N = 5000) ∨ (¬ 5000 < l0.length ∧ l0.length = N)) := by
    by_cases hl : 5000 < l0.length
    · exact ⟨l0.take 5000, 5000, by simp; omega, h.take 5000 (by omega), Nat.le_refl _, .inl ⟨hl, rfl⟩⟩
    · exact ⟨l0, l0.length, rfl, h, by omega, .inr ⟨hl, rfl⟩⟩
  obtain ⟨l, N, hN, hrb, hl5, hcase⟩ := hsp
  clear h
  generalize l0.length = n0 at *
  have HRB := Lib.hid (fun W (hk : Keeps w W) => hrb.keeps hk)
  have HRD := Lib.hid (fun W (hk : Keeps w W) => (show Rd W 1 (.slice a N cap) N (l.map (Value.int .u8)) by have := (hrb.keeps hk).rd; rwa [← hN] at this))
  have HBY := Lib.hid hrb.bytes
  have HAW := Lib.hid awake_any
  have HN := Lib.hid hN
  clear hrb hN
  have HDC := Lib.hid (dhR_cases l N HN.out)
  have HDEC := Lib.hid (fun (v : Value) W hr => bkdec_r v l N HN.out W hr hl5 HBY.out)
  have HRDEC := Lib.hid (fun W (hk : Keeps w W) => rkdec_r AnyB _ l W (HRB.out W hk))
  have HDH := Lib.hid (fun (v : Value) W hr => dhead_r v l N HN.out W hr hl5 HBY.out)
  generalize (decR l).1.1 = XH at *
  generalize (decR l).1.2 = XT at *
  generalize (decR l).2 = XE at *
  generalize (dhR l).1 = DH at *
  generalize (dhR l).2 = DE at *
  rcases hcase with ⟨hb, he⟩ | ⟨hb, he2⟩
  all_goals
    first | (have he3 := he2.symm; subst he3) | (have HE5 := Lib.hid he; clear he)
    go_enter Tryd.func3, Tryd.ntmps3
    go_upto_region 5 with (go_at_call 4; refine (HAW.out _).mono ?_; rintro e W1 ⟨rfl, hk1⟩; have HK1 := Lib.hid hk1; clear hk1)
    try rw [← HE5.out]
    clear hb
    go_upto_region 6 with (go_at_call 5; refine (spare_any _ _ l _ (HRD.out _ HK1.out) (by omega)).mono ?_; rintro e W2 ⟨rfl, hk2, hl2, hs2⟩; have HK2 := Lib.hid (HK1.out.trans hk2); have HS2 := Lib.hid hs2; clear hk2 hs2)
    obtain ⟨q, hq⟩ : ∃ q, q = W1.heap.size := ⟨_, rfl⟩
    rw [← hq] at HS2 hl2 ⊢
    clear hq
    have HRP := Lib.hid (spare_rd HS2.out hl2 HN.out hl5)
    clear hl2
    go_upto_region 7 with (first
      | (go_at_call 6; refine (HDEC.out _ _ HRP.out).mono ?_; intro r W3 hpst; obtain ⟨hk3, hok3, a3, c3, rfl, ht3⟩ := hpst; have HK3 := Lib.hid hk3; have HOK := Lib.hid hok3; have HT3 := Lib.hid ht3; clear hk3 hok3 ht3)
      | ((with_reducible refine gate_store 33 (.tmp 5) (.tmp 25) ?_); refine wpList_store_row rfl 33 (.tmp 5) (.tmp 25) rfl W3.heap.size 0 rfl (blkCells (hd0 0) (.slice none 0 0)) (blkCells XH (.slice a3 XT.length c3)) rfl (Row.new _ _ _ rfl) (by rw [blkCells_len _ HOK.out.prevLen HOK.out.merkleLen, blkCells_len _ rfl rfl]) (sz_blk _ HOK.out.prevLen HOK.out.merkleLen) (blkCells_one _ _ _ _) ?_; intro W4 hr4 hc4; have HR4 := Lib.hid hr4; have HK4 := Lib.hid (keeps_chg (keeps_alloc (Keeps.refl W3) _) hc4 (Nat.le_refl _)); clear hr4 hc4))
    generalize W3.heap.size = pb at *
    have HK24 := Lib.hid (HK3.out.trans HK4.out)
    have HK04 := Lib.hid (HK2.out.trans HK24.out)
    have HT4 := Lib.hid (HT3.out.keeps HK4.out)
    clear HK3 HK4 HT3
    go_upto_region 8 with (first
      | (go_at_call 7; refine (HRDEC.out _ HK04.out).mono ?_; intro r W5 hpst; obtain ⟨hk5, hok5, a5, c5, rfl, ht5⟩ := hpst; have HK5 := Lib.hid hk5; have HT5 := Lib.hid ht5; clear hk5 hok5 ht5)
      | ((with_reducible refine gate_store 33 (.tmp 7) (.tmp 30) ?_); refine wpList_store_row rfl 33 (.tmp 7) (.tmp 30) rfl W5.heap.size 0 rfl (blkCells (hd0 0) (.slice none 0 0)) (blkCells XH (.slice a5 XT.length c5)) rfl (Row.new _ _ _ rfl) (by rw [blkCells_len _ HOK.out.prevLen HOK.out.merkleLen, blkCells_len _ rfl rfl]) (sz_blk _ HOK.out.prevLen HOK.out.merkleLen) (blkCells_one _ _ _ _) ?_; intro W6 hr6 hc6; have HR6 := Lib.hid hr6; have HK6 := Lib.hid (keeps_chg (keeps_alloc (Keeps.refl W5) _) hc6 (Nat.le_refl _)); clear hr6 hc6))
    generalize W5.heap.size = pr at *
    have HK46 := Lib.hid (HK5.out.trans HK6.out)
    have HT6 := Lib.hid (HT5.out.keeps HK6.out)
    have HR46 := Lib.hid (HR4.out.keeps HK46.out)
    have HK26 := Lib.hid (HK24.out.trans HK46.out)
    have HK06 := Lib.hid (HK04.out.trans HK46.out)
    have HSAME := Lib.hid (fun W (hk : Keeps W6 W) => rbsame_any XH XH HOK.out HOK.out _ _ XT XT W ((HT4.out.keeps HK46.out).keeps hk) (HT6.out.keeps hk))
    rw [decide_eq_true (And.intro rfl rfl)] at HSAME
    have HKEPT := Lib.hid (fun W (hk : Keeps W6 W) => kept_any (.slice a N cap) N q (N + 9) l W (HRD.out _ (HK06.out.trans hk)) (by omega) (HS2.out.keeps (HK26.out.trans hk)))
    clear HK5 HK6 HT5 HR4 HT4 HT6 HK46 HDEC HRDEC HRB HS2
    have ZB := Lib.hid (sz_blk (.slice a3 XT.length c3) HOK.out.prevLen HOK.out.merkleLen); have ZB2 := Lib.hid (sz_blk (.slice a5 XT.length c5) HOK.out.prevLen HOK.out.merkleLen)
    generalize blkCells XH (.slice a3 XT.length c3) = B1 at *
    generalize blkCells XH (.slice a5 XT.length c5) = B2 at *
    go_upto_region 10 with (first
      | ((with_reducible refine gate_load 33 (.tmp 5) ?_); refine wpList_load_on (by kernel_rfl) 33 (.tmp 5) rfl pb 0 rfl _ _ HR46.out Tryd.underlying33 rfl ZB.out ?_)
      | ((with_reducible refine gate_load 33 (.tmp 7) ?_); refine wpList_load_on (by kernel_rfl) 33 (.tmp 7) rfl pr 0 rfl _ _ HR6.out Tryd.underlying33 rfl ZB2.out ?_)
      | (go_at_call 8; refine (HSAME.out _ (Keeps.refl _)).mono ?_; rintro r W7 ⟨rfl, hk7⟩; have HK7 := Lib.hid hk7; clear hk7)
      | (go_at_call 9; refine (HKEPT.out _ HK7.out).mono ?_; rintro r W8 ⟨rfl, hk8⟩; have HK8 := Lib.hid (HK7.out.trans hk8.keeps); clear hk8))
    have HK28 := Lib.hid (HK26.out.trans HK8.out)
    have HK08 := Lib.hid (HK06.out.trans HK8.out)
    clear HK7 HK8 HR46 HR6 HSAME HKEPT ZB ZB2 HK26 HK06
    have HRP8 := Lib.hid (HRP.out.keeps HK28.out)
    go_upto_region 11 with (first
      | (go_at_call 10; refine (HDH.out _ _ HRP8.out).mono ?_; rintro r W9 ⟨hk9, hok9, rfl⟩; have HK9 := Lib.hid hk9; have HOK9 := Lib.hid hok9; clear hk9 hok9)
      | ((with_reducible refine gate_store 30 (.tmp 9) (.tmp 50) ?_); refine wpList_store_row rfl 30 (.tmp 9) (.tmp 50) rfl W9.heap.size 0 rfl (hdCells (hd0 0)) (hdCells DH) rfl (Row.new _ _ _ rfl) (by rw [hdCells_len HOK9.out.prevLen HOK9.out.merkleLen, hdCells_len rfl rfl]) (sz_hd HOK9.out.prevLen HOK9.out.merkleLen) (hdCells_one _) ?_; intro W10 hr10 hc10; have HR10 := Lib.hid hr10; have HK10 := Lib.hid (keeps_chg (keeps_alloc (Keeps.refl W9) _) hc10 (Nat.le_refl _)); clear hr10 hc10))
    generalize W9.heap.size = ph at *
    have HK010 := Lib.hid (HK08.out.trans (HK9.out.trans HK10.out))
    clear HK9 HK10 HK08 HK28 HRP8 HRP HK24 HK04 HK2 HK1
    have HE := Lib.hid (fun W => hd_equal W DH DH HOK9.out HOK9.out)
    rw [decide_eq_true rfl] at HE
    have ZD := Lib.hid (sz_hd HOK9.out.prevLen HOK9.out.merkleLen)
    rcases HDC.out with ⟨hN, rfl, rfl⟩ | ⟨hN, rfl, rfl⟩ | ⟨hN, hN2, rfl, rfl⟩
    · go_wp2_with (first
        | ((with_reducible refine gate_load 30 (.tmp 9) ?_); refine wpList_load_on (by kernel_rfl) 30 (.tmp 9) rfl ph 0 rfl _ _ HR10.out Tryd.underlying30 rfl ZD.out ?_)
        | (refine wpList_build_on (by kernel_rfl) 30 _ rfl [] ?_ _ built_hd0 ?_; focus rfl)
        | ((with_reducible refine gate_bin .eql 30 30 (.tmp 58) (.tmp 59) ?_); refine wpList_eql_at (by kernel_rfl) 30 30 (.tmp 58) (.tmp 59) rfl _ _ rfl rfl true HE.out (by kernel_rfl) ?_))
      go_ret
      exact ⟨by first | rfl | exact ret_bool (by simp), HK010.out⟩
    · go_wp2_with (first
        | ((with_reducible refine gate_load 30 (.tmp 9) ?_); refine wpList_load_on (by kernel_rfl) 30 (.tmp 9) rfl ph 0 rfl _ _ HR10.out Tryd.underlying30 rfl ZD.out ?_)
        | (refine wpList_build_on (by kernel_rfl) 30 _ rfl [] ?_ _ built_hd0 ?_; focus rfl)
        | ((with_reducible refine gate_bin .eql 30 30 (.tmp 68) (.tmp 69) ?_); refine wpList_eql_at (by kernel_rfl) 30 30 (.tmp 68) (.tmp 69) rfl _ _ rfl rfl true HE.out (by kernel_rfl) ?_))
      go_ret
      exact ⟨by first | rfl | exact ret_bool (by simp), HK010.out⟩
    · have HRH := Lib.hid (fun W (hk : Keeps W10 W) => rhead_any (.slice a N cap) l W (by have := HRD.out _ (HK010.out.trans hk); rwa [HN.out] at this ⊢) HBY.out (by have := HN.out; omega))
      go_upto_region 15 with (fail)
      refine wp_region_head (S := fun W => Hid ((fun W => Keeps W10 W) W)) 6 (by kernel_rfl) (by kernel_rfl) ?_ (fun hHeld => ?_)
      focus exact Lib.hid (keeps_drew (Keeps.refl _))
      refine wpAnyHL_take (i := 0) (oi := ?_) (v := ?_) ?_ ?_ ?_ ?_ ?_ ?_ ?_ ?_ ?_ (Or.inl ⟨?_, ?_⟩) ?_ ?_
      rotate_left 2
      focus (simp only [List.getElem?_toArray, List.getElem?_cons_succ, List.getElem?_cons_zero]; exact rfl)
      focus kernel_rfl
      focus kernel_rfl
      focus kernel_rfl
      focus kernel_rfl
      focus kernel_rfl
      focus kernel_rfl
      focus kernel_rfl
      focus (exact fun _ _ _ h => h)
      focus rfl
      focus ((intro wSw hSw; (have hSw := hSw.out); (try dsimp only at hSw); go_simp) <;> with_reducible rfl)
      focus assumption
      try simp only [Act.put, List.setIfInBounds_toArray, List.set_cons_zero, List.set_cons_succ]
      refine wpAnyHL_take (i := 1) (oi := ?_) (v := ?_) ?_ ?_ ?_ ?_ ?_ ?_ ?_ ?_ ?_ (Or.inl ⟨?_, ?_⟩) ?_ ?_
      rotate_left 2
      focus (simp only [List.getElem?_toArray, List.getElem?_cons_succ, List.getElem?_cons_zero]; exact rfl)
      focus kernel_rfl
      focus kernel_rfl
      focus kernel_rfl
      focus kernel_rfl
      focus kernel_rfl
      focus kernel_rfl
      focus kernel_rfl
      focus (exact fun _ _ _ h => h)
      focus rfl
      focus ((intro wSw hSw; (have hSw := hSw.out); (try dsimp only at hSw); go_simp) <;> with_reducible rfl)
      focus assumption
      try simp only [Act.put, List.setIfInBounds_toArray, List.set_cons_zero, List.set_cons_succ]
      refine wpAnyHL_take (i := 2) (oi := ?_) (v := ?_) ?_ ?_ ?_ ?_ ?_ ?_ ?_ ?_ ?_ (Or.inl ⟨?_, ?_⟩) ?_ ?_
      rotate_left 2
      focus (simp only [List.getElem?_toArray, List.getElem?_cons_succ, List.getElem?_cons_zero]; exact rfl)
      focus kernel_rfl
      focus kernel_rfl
      focus kernel_rfl
      focus kernel_rfl
      focus kernel_rfl
      focus kernel_rfl
      focus kernel_rfl
      focus (exact fun _ _ _ h => h)
      focus rfl
      focus ((intro wSw hSw; (have hSw := hSw.out); (try dsimp only at hSw); go_simp) <;> with_reducible rfl)
      focus assumption
      try simp only [Act.put, List.setIfInBounds_toArray, List.set_cons_zero, List.set_cons_succ]
      refine wpAnyHL_take (i := 3) (oi := ?_) (v := ?_) ?_ ?_ ?_ ?_ ?_ ?_ ?_ ?_ ?_ (Or.inl ⟨?_, ?_⟩) ?_ ?_
      rotate_left 2
      focus (simp only [List.getElem?_toArray, List.getElem?_cons_succ, List.getElem?_cons_zero]; exact rfl)
      focus kernel_rfl
      focus kernel_rfl
      focus kernel_rfl
      focus kernel_rfl
      focus kernel_rfl
      focus kernel_rfl
      focus kernel_rfl
      focus (exact fun _ _ _ h => h)
      focus rfl
      focus (intro wSw hSw; (have hSw := hSw.out); (refine run_load_row 30 (.tmp 9) ?_ ph 0 ?_ _ _ (HR10.out.keeps hSw) Tryd.underlying30 rfl ZD.out) <;> rfl)
      focus assumption
      try simp only [Act.put, List.setIfInBounds_toArray, List.set_cons_zero, List.set_cons_succ]
      refine wpAnyHL_take (i := 4) (oi := ?_) (v := ?_) ?_ ?_ ?_ ?_ ?_ ?_ ?_ ?_ ?_ (Or.inl ⟨?_, ?_⟩) ?_ ?_
      rotate_left 2
      focus (simp only [List.getElem?_toArray, List.getElem?_cons_succ, List.getElem?_cons_zero]; exact rfl)
      focus kernel_rfl
      focus kernel_rfl
      focus kernel_rfl
      focus kernel_rfl
      focus kernel_rfl
      focus kernel_rfl
      focus kernel_rfl
      focus (exact fun _ _ _ h => h)
      focus rfl
      focus ((intro wSw hSw; (have hSw := hSw.out); (try dsimp only at hSw); go_simp) <;> with_reducible rfl)
      focus assumption
      try simp only [Act.put, List.setIfInBounds_toArray, List.set_cons_zero, List.set_cons_succ]
      refine wpAnyHL_one (i := 5) (o := ?_) (by kernel_rfl) (by kernel_rfl) ?_ ?_
      rotate_left 1
      focus (simp only [List.getElem?_toArray, List.getElem?_cons_succ, List.getElem?_cons_zero]; exact rfl)
      go_wp2_with (go_at_call 11; refine (HRH.out _ hHeld.out).mono ?_; rintro r W11 ⟨hk11, rfl⟩; have HK11 := Lib.hid hk11; clear hk11)
      try dsimp only [StepQ]
      refine ⟨?_, fun hHeld => ?_⟩
      focus (exact Lib.hid (hHeld.out.trans HK11.out))
      try simp only [Act.put, List.setIfInBounds_toArray, List.set_cons_zero, List.set_cons_succ]
      refine wpAnyHL_done (by kernel_rfl) ?_
      try simp only [List.drop_succ_cons, List.drop_zero]
      refine wpList_eql_at (by kernel_rfl) 30 30 (.tmp 75) (.tmp 77) rfl _ _ rfl rfl true HE.out (by kernel_rfl) ?_
      simp only [Act.put, List.setIfInBounds_toArray, List.set_cons_zero, List.set_cons_succ]
      go_wp2
      go_ret
      exact ⟨by first | rfl | exact ret_bool (by simp), HK010.out.trans hHeld.out⟩
end Go.Proofs.YtcodpdpeklammaaDoor
