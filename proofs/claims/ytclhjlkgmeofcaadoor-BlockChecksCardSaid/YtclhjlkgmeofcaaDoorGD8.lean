/- block.Root, given block.Merkle. | slices.Clone and slices.Chunk at digests. | block.Merkle: the state of its inner loop (a row that is appended to, its slice in a cell). No condition. | A frame's marks (collected deferred blocks) on its way out: they are taken one by one. No condition. -/
import Derived.Test.YtclhjlkgmeofcaaDoorGD7
import Derived.RangeFuncNested
import Derived.RangeFuncBound
import Derived.RangeFuncWrites
import Derived.RangeFuncBox
import Derived.RangeFuncCalls
import Derived.RangeFuncLeaves
import Derived.Shelf.Abstract
import Derived.WalkKit
import Derived.OwnWalkIn
import Derived.TacticsInMore
import Derived.LoopNIn
import Derived.LoopIn
namespace Go.Proofs.YtclhjlkgmeofcaaDoor
set_option linter.unusedVariables false
set_option linter.unusedSimpArgs false
open Go Go.RowKit

set_option maxRecDepth 100000 in
set_option maxHeartbeats 4000000 in
theorem root_any (hmk0 : ∀ (l : List (List Int)) (W : World) (v : Value), RH W v l → Calls Tryd.prog 8 #[v] W fun e w' => e = .returned (.agg ((merkD l).map (Value.int .u8)).toArray) ∧ Keeps W w')
    (hc : List Value) (hl : hc.length = 68) (S T R : Nat → Prop) (tv : Value) (l : List TxD) (hf : ∀ d ∈ l, Fits d) (w : World) (h : RTxs S T R w tv l) (hS : ∀ g, S g → g < w.heap.size) :
    Calls Tryd.prog 10 #[.agg (hc ++ [tv]).toArray] w fun e w' => e = .returned (.agg ((merkD (l.map widD)).map (Value.int .u8)).toArray) ∧ Keeps w w' := by
  have HT := Lib.hid h; have HF := Lib.hid hf; have HS := Lib.hid hS
  obtain ⟨a, cap, rfl, hcap, hcm⟩ := h.any
  have hsm := h.small
  have hmo := merkD_ok (l.map widD) (wids_ok l)
  have Z32 := Lib.hid (sz_h _ hmo.1); have HML := Lib.hid hmo.1
  have hmk : Hid (∀ W v, RH W v (l.map widD) → Calls Tryd.prog 8 #[v] W fun e w' => e = .returned (.agg ((merkD (l.map widD)).map (Value.int .u8)).toArray) ∧ Keeps W w') := Lib.hid (fun W v h => hmk0 (l.map widD) W v h)
  clear h hf hmo hmk0 hS
  generalize merkD (l.map widD) = MD at *
  go_enter Tryd.func10, Tryd.ntmps10
  go_upto_region 1 with (fail)
  refine wp_rows2 (fun W1 hk hr1 hr2 hsz => ?_)
  have hr1 : Row W1 w.heap.size 0 (hc ++ [.slice a l.length cap]) := by simpa using hr1
  have hr2 : Row W1 (w.heap.size + 1) 0 z32 := hr2
  obtain ⟨p, hp⟩ : ∃ p, p = w.heap.size := ⟨_, rfl⟩
  rw [← hp] at hr1 hr2 hsz ⊢
  have HP := Lib.hid hp; have HK := Lib.hid hk; have HR2 := Lib.hid hr2
  have b0 := (blk_cell hr1 hl).1
  clear hp hk hr1 hr2 hsz
  go_wp2
  go_loopw [3, 9] (fun v c wr => ∃ i : Nat, i ≤ l.length ∧ c = .int .i64 i ∧ Hid (OwnH W1 wr v ((l.take i).map widD))) (fun _ c _ => (l.length - intOf c).toNat)
  case atStart => exact ⟨0, by omega, rfl, Lib.hid (OwnH.nil _)⟩
  case round =>
    obtain ⟨i, hi, rfl, HOW⟩ := hrel
    have hil : ((l.take i).map widD).length = i := by simp; omega
    obtain ⟨va, vc, hv⟩ := HOW.out.any
    rw [hil] at hv
    subst hv
    have HIL := Lib.hid hil
    clear hil
    by_cases hlt : i < l.length
    · obtain ⟨g, off, iv, ov, d, rfl, hg, hdi, hrow, hrtx⟩ := (HT.out.keeps (HK.out.trans HOW.out.keeps)).at hlt
      have hfd := HF.out d (List.mem_of_getElem? hdi)
      have HE := Lib.hid (fun W (hk : Keeps wr W) => wid_any S T R d iv ov hfd W (hrtx.keeps hk) (fun g hg => Nat.lt_of_lt_of_le (HS.out g hg) ((HK.out.trans HOW.out.keeps).trans hk).size))
      have HROW := Lib.hid hrow
      have HTK : Hid ((l.take (i + 1)).map widD = (l.take i).map widD ++ [idD d true]) := Lib.hid (by rw [map_take_snoc widD l i d hdi]; rfl)
      have hih : (idD d true).length = 32 ∧ Bytes (idD d true) := ⟨sha_length _, sha_bytes _⟩
      have HIH := Lib.hid hih
      obtain ⟨ia, ic, rfl, -⟩ := hrtx.ins.any
      obtain ⟨oa, oc, rfl, -⟩ := hrtx.outs.any
      clear hdi hrow hrtx hfd hih
      generalize idD d true = ID at *
      go_upto_region 5 with (first | ((with_reducible refine gate_load 66 (.tmp 11) ?_); refine wpList_load_at rfl 66 (.tmp 11) rfl g (off + i * 4) rfl _ _ HROW.out Tryd.underlying66 rfl (sz_tx _ _ _ _) ?_) | ((with_reducible refine gate_store 66 (.tmp 5) (.tmp 12) ?_); refine wpList_store_row rfl 66 (.tmp 5) (.tmp 12) rfl _ 0 rfl _ (txCells d _ _) rfl (Row.new [.int .i32 0, .slice none 0 0, .slice none 0 0, .int .u32 0] _ _ rfl) rfl (sz_tx _ _ _ _) (four_one _ _ _ _ _ _ _ _) ?_; intro W5 hr5 hc5; have HR5 := Lib.hid hr5; have HC5 := Lib.hid hc5; clear hr5 hc5))
      have HK5 := Lib.hid (keeps_chg (keeps_alloc (Keeps.refl wr) _) HC5.out (Nat.le_refl _))
      obtain ⟨q, hq⟩ : ∃ q, q = wr.heap.size := ⟨_, rfl⟩
      rw [← hq] at HR5 ⊢
      clear hq HC5
      go_wp2_with (first | ((with_reducible refine gate_load 66 (.tmp 5) ?_); refine wpList_load_at rfl 66 (.tmp 5) rfl q 0 rfl _ _ HR5.out Tryd.underlying66 rfl (sz_tx _ _ _ _) ?_) | (go_at_call 33; refine (HE.out _ HK5.out).mono ?_; rintro e W3 ⟨rfl, hk3⟩; have HK3 := Lib.hid hk3; clear hk3) | (refine wpList_buildSlice1 rfl 22 24 _ rfl 32 32 Tryd.underlying22 hash_info hash_zero (by decide) (ID.map (Value.int .u8)) rfl (by rw [List.length_map, HIH.out.1]) ?_) | (at_builtin; refine ownh_append1' rfl _ _ rfl HOW.out HIL.out (HK5.out.trans HK3.out) rfl HIH.out.1 HIH.out.2 1 24 _ rfl rfl (by omega) ?_; intro v9 w9 h9; have H9 := Lib.hid h9; clear h9))
      have h10 := H9.out
      rw [← HTK.out] at h10
      have H10 := Lib.hid h10
      clear h10
      go_roundw
      case rel => exact ⟨i + 1, by omega, by go_num, H10⟩
      case measure => simp [intOf]; omega
    · obtain rfl : l.length = i := by omega
      rw [List.take_length] at HOW
      have hrh : RH wr (.slice va l.length vc) (l.map widD) := HOW.out.rh (by simp; omega)
      have HKW := Lib.hid HOW.out.keeps
      have HCALL := Lib.hid (hmk.out wr _ hrh)
      clear hrh HOW hmk
      go_wp2_with (first | (go_at_call 8; refine HCALL.out.mono ?_; rintro e W8 ⟨rfl, hk8⟩; have HK8 := Lib.hid hk8; clear hk8) | ((with_reducible refine gate_store 24 (.tmp 2) (.tmp 20) ?_); refine wpList_store_row rfl 24 (.tmp 2) (.tmp 20) rfl (p + 1) 0 rfl z32 (MD.map (Value.int .u8)) rfl ((HR2.out.keeps HKW.out).keeps HK8.out) (by rw [List.length_map, HML.out]; rfl) Z32.out (int_oneCell _) ?_; intro W9 hr9 hc9; have HR9 := Lib.hid hr9; have HC9 := Lib.hid hc9; clear hr9 hc9))
      refine bodyPost_ret (v := .agg (MD.map (Value.int .u8)).toArray) (results_cell_at (p := 2) (ty := 24) rfl _ _ (p + 1) 0 _ _ rfl HR9.out Tryd.underlying24 rfl Z32.out) rfl ?_
      exact ⟨rfl, keeps_chg ((HK.out.trans HKW.out).trans HK8.out) HC9.out (by have := HP.out; omega)⟩
end Go.Proofs.YtclhjlkgmeofcaaDoor
namespace Go.Proofs.YtclhjlkgmeofcaaDoor
set_option linter.unusedVariables false
set_option linter.unusedSimpArgs false
open Go Go.RowKit Go.Shelf
theorem eql_slice_nil {P : Program} (t e : TypeId) (a : Option Addr) (l c : Nat) (h : P.underlying t = some (.slice e)) {w : World} : (binOp .eql t (.slice a l c) (.slice none 0 0)).run P w = .ok (.bool a.isNone) w := by
  simp only [binOp]
  simp [run_equal_slice_nil w t e a l c h]

set_option maxRecDepth 100000 in
set_option maxHeartbeats 1000000 in
theorem sclH_any (v : Value) (n : Nat) (cs : List Value) (w : World) (hr : Rd w 32 v n cs) (h1 : ∀ u ∈ cs, u.oneCell' = true) (hn : n * 32 ≤ 140737488355328) :
    Calls Tryd.prog 28 #[v] w fun e w' => ∃ v', e = .returned v' ∧ Keeps w w' ∧ Buf w' 32 v' n cs ∧ ∀ g, v'.ownBlock = some g → w.heap.size ≤ g := by
  have HR := Lib.hid hr
  obtain ⟨h0, a, cap, rfl, h2, h3, h4, -⟩ := hr
  cases a with
  | none =>
    obtain ⟨rfl, rfl⟩ := h4 rfl
    obtain rfl : cs = [] := List.eq_nil_of_length_eq_zero (by simpa using h0)
    have hnil : ∀ W, (binOp .eql 22 (.slice none 0 0) (.slice none 0 0)).run Tryd.prog W = .ok (.bool true) W := fun W => eql_slice_nil 22 24 none 0 0 Tryd.underlying22
    go_enter Tryd.func28, Tryd.ntmps28
    go_wp2
    go_ret
    exact ⟨_, rfl, Keeps.refl _, Buf.nil _ _, fun g hg => by simp [Value.ownBlock] at hg⟩
  | some ad =>
    clear h4
    obtain ⟨i0, z0, hi, hz0, hz1, hz2, hz3⟩ := info2_any hash_info hash_zero
    have HI := Lib.hid hi; have HZ0 := Lib.hid hz0; have HZ1 := Lib.hid hz1; have HZ2 := Lib.hid hz2
    clear hi hz0 hz1 hz2
    have hnil : ∀ W, (binOp .eql 22 (.slice (some ad) n cap) (.slice none 0 0)).run Tryd.prog W = .ok (.bool false) W := fun W => eql_slice_nil 22 24 (some ad) n cap Tryd.underlying22
    go_enter Tryd.func28, Tryd.ntmps28
    go_wp2_with (at_builtin; refine wpList_append_buf rfl (.tmp 5) (.tmp 6) 22 22 rfl 24 i0 z0 32 32 Tryd.underlying22 HI.out HZ0.out HZ1.out HZ2.out hz3 (by decide) (.slice (some ⟨w.heap.size, 0, none⟩) 0 0) 0 [] rfl (Buf.made _) _ rfl n cs ((HR.out.keeps (keeps_alloc (Keeps.refl _) _)).src Tryd.underlying22 h1) (by unfold maxLen at *; omega) (by omega) ?_; intro v9 w9 hb9 hc9 hs9 hn9; have HB9 := Lib.hid hb9; have HC9 := Lib.hid hc9; have HS9 := Lib.hid hs9; clear hb9 hc9 hs9 hn9)
    go_ret
    have hk : Keeps w w9 := by
      have k1 := keeps_alloc (Keeps.refl w) (.cells #[] 24)
      exact Below.trans k1 (HC9.out.below k1.size (fun k hk e => by simp [Value.ownBlock] at e; omega))
    refine ⟨v9, rfl, hk, by have := HB9.out; simpa using this, fun g hg => ?_⟩
    rcases HS9.out with e | ⟨g', e1, e2⟩
    · rw [e] at hg; simp [Value.ownBlock] at hg; omega
    · rw [hg] at e1; cases e1
      have := (keeps_alloc (Keeps.refl w) (.cells #[] 24)).size
      omega
/-- what a round keeps for Chunk: block p alone may turn, of those that were there at the loop's beginning -/
def KpC (n₀ p : Nat) (W W' : World) : Prop := Chg (fun k => k = p ∨ n₀ ≤ k) W W'
theorem KpC.b {n₀ p : Nat} {w : World} (hn : n₀ ≤ w.heap.size) (W : World) (l : Nat) (o o' : Obj) (hl : w.heap.size ≤ l) (h : W.heap[l]? = some o) (_ : o.isCells = false) (_ : o.isWalk = false) : KpC n₀ p W (W.putObj l o') :=
  ⟨rfl, rfl, rfl, by simp, fun k hk hs => World.putObj_heap_other (fun e => hs (.inr (by omega)))⟩
theorem KpC.cell {n₀ p : Nat} {W W' : World} (h : KpC n₀ p W W') {b : Nat} (o : Nat) (h1 : b ≠ p) (h2 : b < n₀) (h3 : b < W.heap.size) : W'.cell? ⟨b, o, none⟩ = W.cell? ⟨b, o, none⟩ := by
  have := h.block b h3 (by rintro (e | e); exact h1 e; omega)
  simp [World.cell?, this]
theorem finTake {B k : Nat} (h : k < B) : (List.finRange B).take (k + 1) = (List.finRange B).take k ++ [⟨k, h⟩] := by
  rw [List.take_succ_eq_append_getElem (by simpa using h)]
  simp
/-- how many the k-th part holds -/
def partLen (n k : Nat) : Nat := min 2 (n - 2 * k)
set_option maxRecDepth 100000 in
set_option maxHeartbeats 2000000 in
theorem chunkh_in (n : Nat) (hn : 1 ≤ n) (l Bs Bn n₀ p b off N B cap : Nat) (hB : B = (N + 1) / 2) (hlen : N * 32 ≤ 140737488355328) (hcap : N ≤ cap) (hcm : cap ≤ maxLen) (h1 : Bs ≠ p) (h2 : Bn ≠ p) (h3 : Bs < n₀) (h4 : Bn < n₀) (J Jx : List (Fin B) → World → Prop) (N₁ : Nat) (hJab : AbidesFrom N₁ J)
    (hY : ∀ pre x W, J pre W → pre.length < B → YieldAt Fence.wide (n - 1) Tryd.prog l #[.slice (some ⟨b, off + (2 * x.val) * 32, none⟩) (partLen N x.val) (partLen N x.val)] W fun e W' =>
      (e = .returned (.bool true) ∧ J (pre ++ [x]) W' ∧ KpC n₀ p W W') ∨ (e = .returned (.bool false) ∧ Jx (pre ++ [x]) W'))
    (W : World) (hW : n₀ ≤ W.heap.size) (hBs : W.cell? ⟨Bs, 0, none⟩ = some (.slice (some ⟨b, off, none⟩) N cap)) (hBn : W.cell? ⟨Bn, 0, none⟩ = some (.int .i64 2)) (h0 : J [] W) :
    CallsIn Fence.wide n Tryd.prog 68 #[.func (.yield l) #[] #[], .pointer (some ⟨Bs, 0, none⟩), .pointer (some ⟨Bn, 0, none⟩)] W fun e W' => (∃ v, e = .returned v) ∧
      ((∃ ys, ys = List.finRange B ∧ J ys W') ∨ (∃ pre, (∃ k, k ≤ B ∧ pre = (List.finRange B).take k) ∧ Jx pre W')) := by
  refine callsIn_of_wp Tryd.func68 rfl trivial ?_ rfl
  have HBE := Lib.hid hB
  clear hB
  simp only [Tryd.ntmps68, List.size_toArray, List.length_cons, List.length_nil, Nat.reduceAdd, Nat.reduceSub, Array.replicate_succ, Array.replicate_zero, List.push_toArray, List.append_toArray, List.nil_append, List.cons_append]
  gi_wp2
  gi_loopw [4] (fun i wr => ∃ k G : Nat, k ≤ B ∧ i = .int .i64 (G : Int) ∧ Hid (G = 2 * k) ∧ G ≤ N + 1 ∧ n₀ ≤ wr.heap.size ∧ J ((List.finRange B).take k) wr ∧ wr.cell? ⟨Bs, 0, none⟩ = some (.slice (some ⟨b, off, none⟩) N cap) ∧ wr.cell? ⟨Bn, 0, none⟩ = some (.int .i64 2))
    (fun i _ => (N + 2 - intOf i).toNat)
  case atStart => exact ⟨0, 0, by omega, rfl, Lib.hid rfl, by omega, hW, h0, hBs, hBn⟩
  case round =>
    obtain ⟨k, G, hk, rfl, HG, hgn, hsz, hJs, hbs, hbn⟩ := hrel
    by_cases hlt : G < N
    · have hkB : k < B := by have h1 := HG.out; have h2 := HBE.out; omega
      have hyy := fun nq => hY _ ⟨k, hkB⟩ (wr.drewN nq) (hJab _ _ _ none hJs ⟨rfl, rfl, rfl, Nat.le_refl _, fun _ _ _ => rfl⟩ (fun r e => by cases e)) (by simp; omega)
      simp only [← HG.out] at hyy
      have hpl : partLen N k = min 2 (N - G) := by unfold partLen; rw [HG.out]
      obtain ⟨M, hM⟩ : ∃ M, M = partLen N k := ⟨_, rfl⟩
      rw [← hM] at hyy hpl
      have HYY := Lib.hid hyy
      clear hyy hM
      have hM0 : 0 < M := by omega
      have hM1 : G + M ≤ N := by omega
      have hM2 : M ≤ 2 := by omega
      have hmin : min (2 : Int) ((N - G : Nat) : Int) = (M : Int) := by omega
      clear hpl
      have HB := Lib.hid (fun W' (h : KpC n₀ p wr W') => And.intro ((h.cell (b := Bs) 0 h1 h3 (by omega)).trans hbs) ((h.cell (b := Bn) 0 h2 h4 (by omega)).trans hbn))
      have HSZ := Lib.hid hsz
      gi_wp2
      refine wpIn_wide.2 ?_
      go_quiet (fail)
      obtain ⟨fn, tmps, assign, body, hy, hR⟩ := HYY.out nq
      have HKQ := Lib.hid (show Chg (fun k => k = p ∨ n₀ ≤ k) wr (wr.drewN nq) from (Chg.refl _ _).drewN nq)
      clear HYY hmin
      gi_wp2
      refine hR.mono ?_
      rintro e W3 (⟨rfl, hJ3, hk3⟩ | ⟨rfl, hJx3⟩)
      · have HK3 := Lib.hid (HB.out _ (HKQ.out.trans hk3))
        have HS3 := Lib.hid (Nat.le_trans HSZ.out (HKQ.out.trans hk3).size)
        obtain ⟨hb3, hn3⟩ := HK3.out
        gi_wp2
        go_roundw
        case rel => exact ⟨k + 1, G + 2, by omega, by go_num, Lib.hid (by have := HG.out; omega), by omega, HS3.out, by rw [finTake hkB]; exact hJ3, hb3, hn3⟩
        case measure => simp [intOf]; omega
      · gi_wp2
        refine bodyPost_ret (results_none rfl _ _ _) rfl ?_
        exact ⟨⟨_, rfl⟩, .inr ⟨_, ⟨k + 1, by omega, by rw [finTake hkB]⟩, hJx3⟩⟩
    · have hkB : B ≤ k := by have h1 := HG.out; have h2 := HBE.out; omega
      gi_wp2
      go_end0
      rw [List.take_of_length_le (by simpa using hkB)] at hJs
      exact ⟨⟨_, rfl⟩, .inl ⟨_, rfl, hJs⟩⟩
theorem chunkh_stops (n : Nat) (hn : 1 ≤ n) (Bs Bn n₀ p b off N B cap : Nat) (hB : B = (N + 1) / 2) (hlen : N * 32 ≤ 140737488355328) (hcap : N ≤ cap) (hcm : cap ≤ maxLen) (h1 : Bs ≠ p) (h2 : Bn ≠ p) (h3 : Bs < n₀) (h4 : Bn < n₀) (w : World) (hn₀ : n₀ ≤ w.heap.size)
    (hBs : w.cell? ⟨Bs, 0, none⟩ = some (.slice (some ⟨b, off, none⟩) N cap)) (hBn : w.cell? ⟨Bn, 0, none⟩ = some (.int .i64 2)) :
    SeqStopsK Fence.wide n Tryd.prog 68 #[.pointer (some ⟨Bs, 0, none⟩), .pointer (some ⟨Bn, 0, none⟩)] (fun x : Fin B => #[Value.slice (some ⟨b, off + (2 * x.val) * 32, none⟩) (partLen N x.val) (partLen N x.val)]) (KpC n₀ p) (fun ys => ys = List.finRange B)
      (fun pre => ∃ k, k ≤ B ∧ pre = (List.finRange B).take k) B w := fun l J Jx W hW hJ _ hY h0 =>
  chunkh_in n hn l Bs Bn n₀ p b off N B cap hB hlen hcap hcm h1 h2 h3 h4 J Jx _ hJ hY W (Nat.le_trans hn₀ hW.size) ((hW.cell (p := ⟨Bs, 0, none⟩) (by show Bs < _; omega)).trans hBs) ((hW.cell (p := ⟨Bn, 0, none⟩) (by show Bn < _; omega)).trans hBn) h0
set_option maxRecDepth 100000 in
theorem chunkh_any (a : Option Addr) (len cap : Nat) (w : World) :
    Calls Tryd.prog 29 #[.slice a len cap, .int .i64 2] w fun e w' => e = .returned (.func (.func 68) #[] #[.pointer (some ⟨w.heap.size, 0, none⟩), .pointer (some ⟨w.heap.size + 1, 0, none⟩)]) ∧ w' = (w.alloc (.cells #[.slice a len cap] 22)).alloc (.cells #[.int .i64 2] 3) := by
  go_enter Tryd.func29, Tryd.ntmps29
  go_wp2
  go_ret
  exact ⟨rfl, rfl⟩
end Go.Proofs.YtclhjlkgmeofcaaDoor
namespace Go.Proofs.YtclhjlkgmeofcaaDoor
set_option linter.unusedVariables false
set_option linter.unusedSimpArgs false
open Go Go.RowKit Go.Shelf

theorem row_kept {W W' : World} {row : Option Nat} {b off : Nat} {vs : List Value} (h : Row W b off vs) (hg : W.grownBy W' row) (hr : ∀ r, row = some r → ∃ o : Obj, W.heap[r]? = some o ∧ o.isCells = false) : Row W' b off vs := by
  intro j v hv
  obtain ⟨h1, h2⟩ := h j v hv
  have hb : b < W.heap.size := World.block_lt_of_cell? W _ h1
  have hne : row ≠ some b := by
    intro e
    obtain ⟨o, ho, hc⟩ := hr b e
    simp only [World.cell?, ho] at h1
    cases o <;> simp_all [Obj.isCells]
  have hk := hg.block b hb (fun e => hne e.symm)
  exact ⟨(World.cell?_of_block (w := W) (a := ⟨b, off + j, none⟩) hk).trans h1, (World.frozen?_of_block (w := W) (a := ⟨b, off + j, none⟩) hk).trans h2⟩
theorem buf_kept {W W' : World} {row : Option Nat} {size n : Nat} {v : Value} {xs : List Value} (h : Buf W size v n xs) (hg : W.grownBy W' row) (hr : ∀ r, row = some r → ∃ o : Obj, W.heap[r]? = some o ∧ o.isCells = false) : Buf W' size v n xs := by
  refine ⟨h.1, ?_⟩
  rcases h.2 with hn | ⟨g, off, cap, spare, rfl, h1, h2, h3, h4, h5⟩
  · exact .inl hn
  · exact .inr ⟨g, off, cap, spare, rfl, h1, h2, h3, Nat.lt_of_lt_of_le h4 hg.size, row_kept h5 hg hr⟩
structure MI (wr W : World) (q : Nat) (v : Value) (l : List (List Int)) : Prop where
  keeps : Keeps wr W
  cell : Row W q 0 [v]
  buf : Buf W 32 v l.length (hCells l)
  new : ∀ g, v.ownBlock = some g → q + 3 ≤ g
  ok : HsOk l
  low : wr.heap.size ≤ q
  sz : q + 3 ≤ W.heap.size
  nil : l = [] → v = .slice none 0 0
theorem MI.step {wr W W' : World} {q : Nat} {v : Value} {l : List (List Int)} (h : MI wr W q v l) (hk : Keeps W W') : MI wr W' q v l := ⟨h.keeps.trans hk, h.cell.keeps hk, h.buf.keeps hk, h.new, h.ok, h.low, Nat.le_trans h.sz hk.size, h.nil⟩
theorem mi_own {α : Type} (B : Nat) (wr : World) (hB : wr.heap.size ≤ B) (q : Nat) (f : List α → List (List Int)) : OwnFrom B (fun (ys : List α) W => ∃ v, MI wr W q v (f ys)) := fun ys W W' row h hg hr => by
  obtain ⟨v, h⟩ := h
  have hr2 : ∀ r, row = some r → ∃ o : Obj, W.heap[r]? = some o ∧ o.isCells = false := fun r e => (hr r e).2
  exact ⟨v, h.keeps.grown hg h.keeps.size (fun k e => Nat.le_trans hB (hr k e).1), row_kept h.cell hg hr2, buf_kept h.buf hg hr2, h.new, h.ok, h.low, Nat.le_trans h.sz hg.size, h.nil⟩
theorem MI.put {wr W W1 w2 : World} {q : Nat} {v v' : Value} {l : List (List Int)} {x : List Int} (h : MI wr W q v l) (hk : Keeps W W1) (hl : x.length = 32) (hx : Bytes x) (hb : Buf w2 32 v' (l.length + 1) (hCells l ++ x.map (Value.int .u8)))
    (hc : Chg (fun k => v.ownBlock = some k) W1 w2) (hs : SameOrNew W1 v v') : MI wr (w2.setCell ⟨q, 0, none⟩ v') q v' (l ++ [x]) := by
  have hk1 := h.keeps.trans hk
  have hq1 : q < W1.heap.size := Nat.lt_of_lt_of_le (h.cell.lt (by simp)) hk.size
  have hnew : ∀ g, v'.ownBlock = some g → q + 3 ≤ g := fun g hg => by
    rcases hs with e | ⟨g', e1, e2⟩
    · exact h.new g (by rw [← e]; exact hg)
    · rw [hg] at e1; cases e1
      have := hk.size
      have := h.sz
      omega
  have hk2 : Keeps wr w2 := Below.trans hk1 (hc.below hk1.size (fun k hk2 e => by have := h.new k e; have := h.low; omega))
  have hx2 := Chg.setCell (Chg.refl (· = q) w2) (p := ⟨q, 0, none⟩) (.inr rfl) v'
  have hcell2 : Row w2 q 0 [v] := (h.cell.keeps hk).chg hc (fun e => by have := h.new q e; omega)
  refine ⟨Below.trans hk2 (hx2.below hk2.size (fun k hk e => by have := h.low; omega)), ?_, ?_, hnew, h.ok.snoc hl hx, h.low, by rw [World.size_setCell]; exact Nat.le_trans h.sz (Nat.le_trans hk.size hc.size), fun e => by simp at e⟩
  · have := hcell2.set 0 (by simp) v'
    simpa using this
  · rw [hCells_app, List.length_append]
    have e : hCells [x] = x.map (Value.int .u8) := by simp [hCells]
    rw [e]
    exact hb.chg hx2 (fun g e2 e3 => by have := hnew g e2; omega)
theorem row_cells {W : World} {b off : Nat} {vs : List Value} (h : Row W b off vs) (hne : vs ≠ []) (o : Obj) (ho : W.heap[b]? = some o) : o.isCells = true := by
  cases vs with
  | nil => exact absurd rfl hne
  | cons v vs =>
    have := (h 0 v rfl).1
    cases o <;> simp_all [World.cell?, Obj.isCells]
theorem MI.cells {wr W : World} {q : Nat} {v : Value} {l : List (List Int)} (h : MI wr W q v l) (k : Nat) (hk : k = q ∨ v.ownBlock = some k) (o : Obj) (ho : W.heap[k]? = some o) : o.isCells = true := by
  rcases hk with rfl | hk
  · exact row_cells h.cell (by simp) o ho
  · by_cases hl : l = []
    · rw [h.nil hl] at hk; simp [Value.ownBlock] at hk
    · have hl0 : 0 < l.length := List.length_pos_iff.2 hl
      obtain ⟨g, off, cap, rfl, _, _, _, hr⟩ := h.buf.form (.inr hl0)
      simp [Value.ownBlock] at hk
      subst hk
      refine row_cells hr ?_ o ho
      intro e
      have := h.buf.1
      rw [e] at this
      simp at this
      omega
theorem MI.from {wr W W2 W' : World} {q : Nat} {v : Value} {l : List (List Int)} (h : MI wr W q v l) (hk : Keeps W W2) (hc : Chg (fun k => k = q ∨ v.ownBlock = some k) W2 W') (B : Nat) : KeepsFrom B W W' :=
  ⟨Nat.le_trans hk.size hc.size, fun k o _ ho hn => by
    have hlt : k < W.heap.size := (Array.getElem?_eq_some_iff.1 ho).1
    rw [hc.block k (Nat.lt_of_lt_of_le hlt hk.size) (fun e => by rw [h.cells k e o ho] at hn; cases hn), hk.block k hlt]
    exact ho⟩
theorem MI.kp {wr W W2 W' : World} {q : Nat} {v : Value} {l : List (List Int)} (h : MI wr W q v l) (hk : Keeps W W2) (hc : Chg (fun k => k = q ∨ v.ownBlock = some k) W2 W') : KpC (q + 3) q W W' :=
  (hk.chg _).trans (hc.mono (fun k _ e => e.elim .inl (fun e => .inr (h.new k e))))
end Go.Proofs.YtclhjlkgmeofcaaDoor
namespace Go.Proofs.YtclhjlkgmeofcaaDoor
set_option linter.unusedVariables false
set_option linter.unusedSimpArgs false
open Go Go.RowKit Go.Shelf

/-- marks of empty blocks from 'base' on, no block twice -/
def Marks (base : Nat) (W : World) : List Deferred → Prop
  | [] => True
  | d :: ds => (∃ D, d = { target := .collected D, args := #[] } ∧ base ≤ D ∧ W.heap[D]? = some (.deferred (some []))) ∧ (∀ d' ∈ ds, d' ≠ d) ∧ Marks base W ds
theorem Marks.mem {base : Nat} {W : World} : ∀ {ds : List Deferred}, Marks base W ds → ∀ d ∈ ds, ∃ D, d = { target := .collected D, args := #[] } ∧ base ≤ D ∧ W.heap[D]? = some (.deferred (some []))
  | _ :: _, h, d, hd => by
    rcases List.mem_cons.1 hd with rfl | hd
    · exact h.1
    · exact Marks.mem h.2.2 d hd
theorem Marks.keep {base : Nat} {W W' : World} : ∀ {ds : List Deferred}, Marks base W ds → (∀ d ∈ ds, ∀ D, d = { target := .collected D, args := #[] } → W.heap[D]? = some (.deferred (some [])) → W'.heap[D]? = some (.deferred (some []))) → Marks base W' ds
  | [], _, _ => trivial
  | d :: ds, h, hk => by
    obtain ⟨⟨D, e, h1, h2⟩, h3, h4⟩ := h
    exact ⟨⟨D, e, h1, hk d (by simp) D e h2⟩, h3, Marks.keep h4 (fun d' hd' => hk d' (by simp [hd']))⟩
theorem Marks.keeps {base : Nat} {W W' : World} {ds : List Deferred} (h : Marks base W ds) (hk : Keeps W W') : Marks base W' ds :=
  h.keep (fun d _ D _ h2 => by rw [hk.block D (Array.getElem?_eq_some_iff.1 h2).1]; exact h2)
theorem Marks.cons {base D : Nat} {W : World} {ds : List Deferred} (h : Marks base W ds) (hb : base ≤ D) (hd : W.heap[D]? = some (.deferred (some []))) (hn : ∀ D', ({ target := .collected D', args := #[] } : Deferred) ∈ ds → D' < D) : Marks base W ({ target := .collected D, args := #[] } :: ds) :=
  ⟨⟨D, rfl, hb, hd⟩, fun d' hd' e => by rw [e] at hd'; exact Nat.lt_irrefl _ (hn D hd'), h⟩
theorem marks_leave {F : Fence} {n : Nat} {P : Program} {fn : Func} {tmps : Array Value} {R : Ending → World → Prop} {w : World} {base p : Nat} {vs : List Value} (hwb : w.heap.size ≤ base) :
    ∀ (ds : List Deferred) (W : World), Marks base W ds → Keeps w W → Row W p 0 vs → (∀ W', Keeps w W' → Row W' p 0 vs → LeavesInM F n P fn tmps R [] .returning W') → LeavesInM F n P fn tmps R ds .returning W
  | [], W, _, hk, hr, h => h W hk hr
  | d :: ds, W, hm, hk, hr, h => by
    obtain ⟨⟨D, rfl, hb, hd⟩, hne, hm2⟩ := hm
    have hdl : D < W.heap.size := (Array.getElem?_eq_some_iff.1 hd).1
    refine ⟨by simp, .inl ⟨D, _, rfl, run_takeDeferred hd, marks_leave hwb ds _ ?_ ?_ ?_ h⟩⟩
    · refine hm2.keep (fun d' hd' D' e h2 => ?_)
      have hDD : D' ≠ D := fun e2 => hne d' hd' (by rw [e, e2])
      rw [World.putObj_heap_other hDD]
      exact h2
    · exact Below.trans hk (belowK_b (w := w) (Nat.le_refl _) W D _ (.deferred none) (by omega) hd rfl rfl)
    · exact row_kept hr (grownBy_putObj' W D (.deferred none)) (fun r e => by cases e; exact ⟨_, hd, rfl⟩)
end Go.Proofs.YtclhjlkgmeofcaaDoor
