/- strongboxlaw10.BlockBytes: the walk. -/
import Derived.Test.YtcodpdpeklammaaGreatDoorGD9
import Derived.Test.YtcodpdpeklammaaGreatDoorGE3
import Derived.Test.YtcodpdpeklammaaGreatDoorGE4
namespace Go.Proofs.YtcodpdpeklammaaGreatDoor
set_option linter.unusedVariables false
set_option linter.unusedSimpArgs false
open Go Go.RowKit

theorem txs_hash32 {S T R : Nat → Prop} {w : World} {v : Value} {l : List TxD} (h : RTxs S T R w v l) : ∀ d ∈ l, d.ins.all (fun i => i.hash.length == 32) = true := by
  obtain ⟨a, cap, rfl, _⟩ := h.any
  intro d hd
  obtain ⟨i, hi, e⟩ := List.getElem_of_mem hd
  obtain ⟨g, off, iv, ov, d', _, _, hd', _, hr⟩ := h.at hi
  rw [List.getElem?_eq_getElem hi, e] at hd'
  cases hd'
  obtain ⟨cs, ps, hx⟩ := hr.ins
  rw [List.all_eq_true]
  intro x hx2
  obtain ⟨k, hk, e⟩ := List.getElem_of_mem hx2
  have hp : ps[k]? = some (ps[k]'(by rw [hx.plen]; exact hk)) := List.getElem?_eq_getElem _
  have := (hx.each k _ x hp (by rw [List.getElem?_eq_getElem hk, e])).1.ok.hashLen
  simpa using this
theorem few_fits {S T R : Nat → Prop} {w : World} {v : Value} {l : List TxD} (h : RTxs S T R w v l) (n : Nat) : ∀ d ∈ (l.take n).map (fewD 4 200), Fits d := fun d hd => by
  obtain ⟨d0, h0, rfl⟩ := List.mem_map.1 hd
  exact fits_few d0 (txs_hash32 h d0 (List.mem_of_mem_take h0))
theorem few_len {S T R : Nat → Prop} {w : World} {v : Value} {l : List TxD} (h : RTxs S T R w v l) (n : Nat) : ∀ d ∈ (l.take n).map (fewD 4 200), (encB d true).length ≤ 80000 := fun d hd => by
  obtain ⟨d0, h0, rfl⟩ := List.mem_map.1 hd
  exact enc_few_len d0 (txs_hash32 h d0 (List.mem_of_mem_take h0)) true
theorem RTxs.each_tx {S T R : Nat → Prop} {w : World} {v : Value} {l : List TxD} (h : RTxs S T R w v l) {d : TxD} (hd : d ∈ l) : ∃ iv ov, RTx S T R w iv ov d := by
  obtain ⟨cs, ps, hh⟩ := h
  obtain ⟨i, hi, e⟩ := List.getElem_of_mem hd
  have hp : ps[i]? = some (ps[i]'(by rw [hh.plen]; exact hi)) := List.getElem?_eq_getElem _
  exact ⟨_, _, (hh.each i _ d hp (by rw [List.getElem?_eq_getElem hi, e])).1⟩
theorem few_cod {S T R : Nat → Prop} {w : World} {v : Value} {l : List TxD} {n : Nat} (h : RTxs S T R w v ((l.take n).map (fewD 4 200))) : ∀ d ∈ (l.take n).map (fewD 4 200), TxCod d := fun d hd => by
  obtain ⟨iv, ov, hr⟩ := h.each_tx hd
  obtain ⟨d0, _, rfl⟩ := List.mem_map.1 hd
  exact cod_few d0 hr
theorem blkB_bytes {S T R : Nat → Prop} {w : World} {v : Value} {l : List TxD} {hb : List Int} (h : RTxs S T R w v l) (h1 : Bytes hb) : Bytes (blkB hb l) :=
  bytesApp (bytesApp h1 (sizeB_bytesY _ (by omega))) (bytesFlat fun d hd => by
    obtain ⟨iv, ov, hr⟩ := h.each_tx hd
    exact textB_bytesY (hr.bytesY true))
theorem dhead_back (v : Value) (h : HdD) (ok : HdOk h) (w : World) (hr : Rd w 1 v 80 ((hdB h).map (Value.int .u8))) : Calls Tryz.prog 8 #[v] w fun r W => Keeps w W ∧ r = .returned (.tuple #[.agg (hdCells h).toArray, .int .i64 0]) := by
  have hl := hdB_len ok
  refine (dhead_r v (hdB h) 80 hl.symm w hr (by omega) (hdB_bytes ok)).mono ?_
  rintro r W ⟨hk, _, rfl⟩
  refine ⟨hk, ?_⟩
  unfold dhR
  rw [if_pos hl, headOf_app h ok]
theorem rb80 {w W : World} {v : Value} {Y : List Int} (h : Own w W v 80 Y) (hl : Y.length = 80) (hb : Bytes Y) : RB (fun g => w.heap.size ≤ g ∧ g < W.heap.size) W v Y := by
  have h : Own w W v Y.length Y := by rwa [hl]
  exact h.rb hb (by omega)
theorem hdOk_head {h : HdD} (ok : HdOk h) : HeadOk h.ver h.prev h.merkle h.time h.bits h.nonce := ⟨ok.ver, ok.prevLen, ok.prev, ok.merkleLen, ok.merkle, ok.time, ok.bits, ok.nonce⟩
theorem hidD_ok (h : HdD) : (hidD h.ver h.prev h.merkle h.time h.bits h.nonce).length = 32 ∧ Bytes (hidD h.ver h.prev h.merkle h.time h.bits h.nonce) := ⟨sha_length _, sha_bytes _⟩
theorem run_neq_at {P : Program} {o : Oper} {a : Act} {w : World} (t t' : TypeId) (x y : Operand) (ho : o.op = .binOp .neq t x y t') (A B : Array Value) (hx : a.eval x = .agg A) (hy : a.eval y = .agg B) (r : Bool)
    (hE : ∀ W, (Op.equalIn 10000 t (.agg A) (.agg B)).run P W = .ok r W) (hm : P.eqGuardType P.depth t = false) : (execOp a.eval o).run P w = .ok (.value (.bool (!r))) w := by
  unfold execOp
  simp only [ho, hx, hy]
  simp only [Sem.run_bind, Sem.run_pure, run_eqGuard_agg _ _ _ _ _ _ _ hm, run_neq_struct, hE, Result.andThen_ok]
set_option maxRecDepth 100000 in
set_option maxHeartbeats 8000000 in
theorem blkbytes_any (h : HdD) (ok : HdOk h) (tv : Value) (l : List TxD) (w : World) (ht : RTxs AnyB AnyB AnyB w tv l) :
    Calls Tryz.prog 3 #[.agg (blkCells h tv).toArray] w fun e w' => e = .returned (.bool true) ∧ Keeps w w' := by
  have hl := hdCells_len ok.prevLen ok.merkleLen
  have HOK := Lib.hid ok
  obtain ⟨ta, tc, rfl, htc, htm⟩ := ht.any
  have HFW := Lib.hid (fun W (hk : Keeps w W) => bfew_loop (hdCells h) hl (hdCells_one h) (.slice ta l.length tc) l W (ht.keeps hk))
  have HFT := Lib.hid (few_fits ht 12)
  have HFL := Lib.hid (few_len ht 12)
  have HFC := Lib.hid (fun (S T R : Nat → Prop) (W : World) (v : Value) (hr : RTxs S T R W v ((l.take 12).map (fewD 4 200))) => few_cod hr)
  have hd12 : ((l.take 12).map (fewD 4 200)).length ≤ 12 := by simp; omega
  have HD12 := Lib.hid hd12
  have HAW := Lib.hid awake_any
  generalize (l.take 12).map (fewD 4 200) = D at *
  have HL := Lib.hid hl
  clear ht hl
  have HEQH := Lib.hid (fun W => hd_equal W h h ok ok)
  rw [decide_eq_true rfl] at HEQH
  have HEH := Lib.hid (fun W => (show Calls Tryz.prog 7 #[.agg (hdCells h).toArray] W fun e w' => ∃ v, e = .returned v ∧ Own W w' v 80 (hdB h) from encodeHeader_any h.ver h.prev h.merkle h.time h.bits h.nonce ok.prevLen ok.merkleLen ok.time ok.bits ok.nonce W))
  have HREH := Lib.hid (fun W => (show Calls Tryz.prog 11 #[.agg (hdCells h).toArray] W fun e w' => ∃ v, e = .returned v ∧ Own W w' v 80 (hdB h) from rencodeHeader_any h.ver h.prev h.merkle h.time h.bits h.nonce ok.prevLen ok.merkleLen ok.time ok.bits ok.nonce W))
  have HID := Lib.hid (fun W => (show Calls Tryz.prog 12 #[.agg (hdCells h).toArray] W fun e w' => e = .returned (.agg ((hidD h.ver h.prev h.merkle h.time h.bits h.nonce).map (Value.int .u8)).toArray) ∧ Keeps W w' from bid_any h.ver h.prev h.merkle h.time h.bits h.nonce ok.prevLen ok.merkleLen ok.prev ok.merkle ok.time ok.bits ok.nonce W))
  have HRID := Lib.hid (fun W => (show Calls Tryz.prog 13 #[.agg (hdCells h).toArray] W fun e w' => e = .returned (.agg ((hidD h.ver h.prev h.merkle h.time h.bits h.nonce).map (Value.int .u8)).toArray) ∧ Keeps W w' from rbid_any h.ver h.prev h.merkle h.time h.bits h.nonce ok.prevLen ok.merkleLen ok.prev ok.merkle ok.time ok.bits ok.nonce W))
  have HENC := Lib.hid (fun (S T R : Nat → Prop) (v : Value) (W : World) (hr : RTxs S T R W v D) (hS : ∀ g, S g → g < W.heap.size) => (show Calls Tryz.prog 6 #[.agg (hdCells h ++ [v]).toArray] W fun e w' => ∃ x, e = .returned x ∧ Own W w' x (blkB (hdB h) D).length (blkB (hdB h) D) from benc_any h.ver h.prev h.merkle h.time h.bits h.nonce (hdOk_head ok) S T R v D HFT.out hd12 W hr hS))
  have HRENC := Lib.hid (fun (S T R : Nat → Prop) (v : Value) (W : World) (hr : RTxs S T R W v D) => (show Calls Tryz.prog 10 #[.agg (hdCells h ++ [v]).toArray] W fun e w' => ∃ x, e = .returned x ∧ Own W w' x (blkB (hdB h) D).length (blkB (hdB h) D) from rbenc_any h.ver h.prev h.merkle h.time h.bits h.nonce (hdOk_head ok) S T R v D HFT.out hd12 W hr))
  have HDH := Lib.hid (fun (v : Value) W hr => dhead_back v h ok W hr)
  have hxl := blkB_few (hdB_len ok) hd12 HFL.out
  have HXL := Lib.hid hxl
  have HXB := Lib.hid (fun (S T R : Nat → Prop) (v : Value) (W : World) (hr : RTxs S T R W v D) => blkB_bytes hr (hdB_bytes ok))
  have HYB := Lib.hid (hdB_bytes ok); have HYL := Lib.hid (hdB_len ok)
  have HDX := Lib.hid (fun (hc : ∀ d ∈ D, TxCod d) (hne : ∀ d ∈ D, d.ins ≠ []) => (show (decR (blkB (hdB h) D)).1.1 = h ∧ (decR (blkB (hdB h) D)).1.2 = D ∧ (decR (blkB (hdB h) D)).2 = 0 from by rw [decR_ok (decBlk_app h ok D hd12 hc HFL.out hne)]; exact ⟨rfl, rfl, rfl⟩))
  have HIDL := Lib.hid (hidD_ok h)
  have ZH := Lib.hid (sz_hd ok.prevLen ok.merkleLen)
  have hbc : ∀ v, blkCells h v = hdCells h ++ [v] := fun v => rfl
  have HBC := Lib.hid hbc
  rw [hbc]
  clear hbc hxl
  generalize blkB (hdB h) D = X at *
  generalize hdB h = Y at *
  generalize hidD h.ver h.prev h.merkle h.time h.bits h.nonce = ID at *
  have HEQI := Lib.hid (fun W => hash_equal W ID ID HIDL.out.1 HIDL.out.2 HIDL.out.1 HIDL.out.2)
  rw [decide_eq_true rfl] at HEQI
  have H1 := Lib.hid (hdCells_one h)
  have HDEC := Lib.hid (fun (hb : Bytes X) (v : Value) W hr => bkdec_r v X X.length rfl W hr (by have := HXL.out; omega) hb)
  have HRDEC := Lib.hid (fun (S : Nat → Prop) (v : Value) W (hr : RB S W v X) => rkdec_r S v X W hr)
  generalize (decR X).1.1 = XH at *
  generalize (decR X).1.2 = XT at *
  generalize (decR X).2 = XE at *
  obtain ⟨HC, hHC⟩ : ∃ HC, HC = hdCells h := ⟨_, rfl⟩
  rw [← hHC] at HFW HEH HREH HID HRID HENC HRENC HDH HEQH HL ZH H1 HBC ⊢
  clear hHC
  go_enter Tryz.func3, Tryz.ntmps3
  go_upto_region 1 with (fail)
  refine wp_rows1 (fun W0 hk hr1 hsz => ?_)
  have hr1 : Row W0 w.heap.size 0 (HC ++ [.slice ta l.length tc]) := by simpa using hr1
  obtain ⟨p, hp⟩ : ∃ p, p = w.heap.size := ⟨_, rfl⟩
  rw [← hp] at hr1 hsz ⊢
  have HP := Lib.hid hp; have HK := Lib.hid hk; have HR1 := Lib.hid hr1
  clear hp hk hr1 hsz
  go_upto_region 3 with (go_at_call 4; refine (HAW.out _).mono ?_; rintro e W2 ⟨rfl, hk2⟩; have HK2 := Lib.hid hk2; clear hk2)
  go_upto_region 4 with (first | ((with_reducible refine gate_load 29 (.tmp 1) ?_); refine wpList_load_at rfl 29 (.tmp 1) rfl p 0 rfl _ _ (HR1.out.keeps HK2.out) Tryz.underlying29 rfl (sz_blk _ _ HL.out) ?_) | (go_at_call 5; refine (HFW.out _ (HK.out.trans HK2.out)).mono ?_; rintro e W3 ⟨tv3, B3, hb3, hn3, rfl, hk3, hr3⟩; have HB3 := Lib.hid hb3; have HN3 := Lib.hid hn3; clear hb3 hn3; have HK3 := Lib.hid hk3; have HT3 := Lib.hid hr3; clear hk3 hr3) | ((with_reducible refine gate_store 29 (.tmp 1) (.tmp 15) ?_); refine wpList_store_row rfl 29 (.tmp 1) (.tmp 15) rfl p 0 rfl (HC ++ [.slice ta l.length tc]) (HC ++ [tv3]) rfl ((HR1.out.keeps HK2.out).keeps HK3.out) (by rw [List.length_append, List.length_append]; rfl) (sz_blk _ _ HL.out) (blk_one H1.out (by obtain ⟨_, _, e, _⟩ := HT3.out.any; rw [e]; rfl)) ?_; intro W9 hr9 hc9; have HR9 := Lib.hid hr9; have HC9 := Lib.hid hc9; clear hr9 hc9))
  have hp := HP.out
  have hkw := HK.out.size
  have hpl : p < W0.heap.size := HR1.out.lt (by simp)
  have hk9 : Keeps w W9 := keeps_chg ((HK.out.trans HK2.out).trans HK3.out) HC9.out (by omega)
  have ht9 : RTxs (Btw B3 W3.heap.size) (Btw B3 W3.heap.size) (Btw B3 W3.heap.size) W9 tv3 D := by
    have hb3 := HB3.out
    have h2 := HK2.out.size
    exact HT3.out.chg HC9.out (fun g e e2 => by have := HN3.out g e; omega) (fun g e e2 => by have := e.1; omega) (fun g e e2 => by have := e.1; omega) (fun g e e2 => by have := e.1; omega)
  have hS9 : ∀ g, Btw B3 W3.heap.size g → g < W9.heap.size := fun g e => Nat.lt_of_lt_of_le e.2 HC9.out.size
  have HK9 := Lib.hid hk9; have HT9 := Lib.hid ht9; have HS9 := Lib.hid hS9
  clear hk9 ht9 hS9 hp hkw hpl HT3 HK2 HK3 HC9 HR1 HB3 HN3 HK HP HFW HAW
  generalize Btw B3 W3.heap.size = SS at *
  have HCOD := Lib.hid (HFC.out _ _ _ _ _ HT9.out)
  have HXY := Lib.hid (HXB.out _ _ _ _ _ HT9.out)
  clear HFC HXB
  have HHD := Lib.hid (blk_head HR9.out HL.out)
  go_upto_region 5 with (first | ((with_reducible refine gate_load 29 (.tmp 1) ?_); refine wpList_load_at rfl 29 (.tmp 1) rfl p 0 rfl _ _ HR9.out Tryz.underlying29 rfl (sz_blk _ _ HL.out) ?_) | (go_at_call 6; refine (HENC.out _ _ _ _ _ HT9.out HS9.out).mono ?_; rintro e W10 ⟨v10, rfl, hO10⟩; obtain ⟨a10, c10, rfl⟩ := hO10.any; have HO10 := Lib.hid hO10; clear hO10))
  have HB10 := Lib.hid (HO10.out.rb HXY.out (by have := HXL.out; omega))
  have HK10 := Lib.hid HO10.out.keeps
  clear HO10 HENC
  go_upto_region 6 with (first | ((with_reducible refine gate_load 26 (.tmp 18) ?_); refine wpList_load_at rfl 26 (.tmp 18) rfl p 0 rfl _ _ (HHD.out.keeps HK10.out) Tryz.underlying26 rfl ZH.out ?_) | (go_at_call 7; refine (HEH.out _).mono ?_; rintro e W11 ⟨v11, rfl, hO11⟩; obtain ⟨a11, c11, rfl⟩ := hO11.any; have HO11 := Lib.hid hO11; clear hO11))
  have HB11 := Lib.hid (rb80 HO11.out HYL.out HYB.out)
  have HRD11 := Lib.hid HO11.out.rd
  have HK11 := Lib.hid (HK10.out.trans HO11.out.keeps)
  have HB10b := Lib.hid (HB10.out.keeps HO11.out.keeps)
  clear HO11 HB10 HK10 HEH
  go_upto_region 7 with (first
    | (go_at_call 8; refine (HDH.out _ _ HRD11.out).mono ?_; rintro r W12 ⟨hk12, rfl⟩; have HK12 := Lib.hid hk12; clear hk12)
    | ((with_reducible refine gate_store 26 (.tmp 5) (.tmp 24) ?_); refine wpList_store_row rfl 26 (.tmp 5) (.tmp 24) rfl W12.heap.size 0 rfl (hdCells (hd0 0)) HC rfl (Row.new _ _ _ rfl) (by rw [HL.out, hdCells_len rfl rfl]) ZH.out H1.out ?_; intro W13 hr13 hc13; have HR13 := Lib.hid hr13; have HK13 := Lib.hid (keeps_chg (keeps_alloc HK12.out _) hc13 HK12.out.size); clear hr13 hc13))
  generalize W12.heap.size = ph at *
  have HK9D := Lib.hid (HK11.out.trans HK13.out)
  have HX13 := Lib.hid (HB10b.out.keeps HK13.out)
  have HY13 := Lib.hid (HB11.out.keeps HK13.out)
  have HRB13 := Lib.hid (HR9.out.keeps HK9D.out)
  have HRH13 := Lib.hid (HHD.out.keeps HK9D.out)
  have HT13 := Lib.hid (HT9.out.keeps HK9D.out)
  have HKW13 := Lib.hid (HK9.out.trans HK9D.out)
  clear HB10b HB11 HRD11 HK11 HK12 HK13 HR9 HHD HT9 HK9 HK9D HDH HS9
  have HRE := Lib.hid (fun W (hk : Keeps W13 W) => HRENC.out _ _ _ _ _ (HT13.out.keeps hk))
  refine wp_region_head (S := fun W => Hid ((fun W => Keeps W13 W) W)) 30 (by kernel_rfl) (by kernel_rfl) ?_ (fun hHeld => ?_)
  focus exact Lib.hid (keeps_drew (Keeps.refl _))
  refine wpAnyHL_take (i := 0) (oi := ?_) (v := ?_) ?_ ?_ ?_ ?_ ?_ ?_ ?_ ?_ ?_ (Or.inl ⟨?_, ?_⟩) ?_ ?_
  rotate_left 2
  focus (simp only [List.getElem?_toArray, List.getElem?_cons_succ, List.getElem?_cons_zero]; exact rfl)
  iterate 7 focus kernel_rfl
  focus (exact fun _ _ _ h => h)
  focus rfl
  focus ((intro wSw hSw; (have hSw := hSw.out); (try dsimp only at hSw); go_simp) <;> with_reducible rfl)
  focus assumption
  try simp only [Act.put, List.setIfInBounds_toArray, List.set_cons_zero, List.set_cons_succ]
  refine wpAnyHL_take (i := 1) (oi := ?_) (v := ?_) ?_ ?_ ?_ ?_ ?_ ?_ ?_ ?_ ?_ (Or.inl ⟨?_, ?_⟩) ?_ ?_
  rotate_left 2
  focus (simp only [List.getElem?_toArray, List.getElem?_cons_succ, List.getElem?_cons_zero]; exact rfl)
  iterate 7 focus kernel_rfl
  focus (exact fun _ _ _ h => h)
  focus rfl
  focus (intro wSw hSw; (have hSw := hSw.out); (refine run_load_row 29 (.tmp 1) ?_ p 0 ?_ _ _ (HRB13.out.keeps hSw) Tryz.underlying29 rfl (sz_blk _ _ HL.out)) <;> rfl)
  focus assumption
  try simp only [Act.put, List.setIfInBounds_toArray, List.set_cons_zero, List.set_cons_succ]
  refine wpAnyHL_one (i := 2) (o := ?_) (by kernel_rfl) (by kernel_rfl) ?_ ?_
  rotate_left 1
  focus (simp only [List.getElem?_toArray, List.getElem?_cons_succ, List.getElem?_cons_zero]; exact rfl)
  go_wp2_with (go_at_call 10; refine (HRE.out _ hHeld.out).mono ?_; rintro e W14 ⟨v14, rfl, hO14⟩; obtain ⟨a14, c14, rfl⟩ := hO14.any; have HO14 := Lib.hid hO14; have HKA := Lib.hid (hHeld.out.trans hO14.keeps); clear hO14)
  try dsimp only [StepQ]
  refine ⟨?_, fun hHeld => ?_⟩
  focus (exact Lib.hid (HKA.out))
  try simp only [Act.put, List.setIfInBounds_toArray, List.set_cons_zero, List.set_cons_succ]
  have HB14 := Lib.hid (HO14.out.rb HXY.out (by have := HXL.out; omega))
  have HE1 := Lib.hid (requal_any (HX13.out.keeps HKA.out) HB14.out)
  rw [decide_eq_true rfl] at HE1
  refine wpAnyHL_one (i := 3) (o := ?_) (by kernel_rfl) (by kernel_rfl) ?_ ?_
  rotate_left 1
  focus (simp only [List.getElem?_toArray, List.getElem?_cons_succ, List.getElem?_cons_zero]; exact rfl)
  go_wp2_with (go_at_call 9; refine HE1.out.mono ?_; rintro e W15 ⟨rfl, rfl⟩)
  try dsimp only [StepQ]
  refine ⟨?_, fun hHeld => ?_⟩
  focus (exact Lib.hid (HKA.out))
  try simp only [Act.put, List.setIfInBounds_toArray, List.set_cons_zero, List.set_cons_succ]
  refine wpAnyHL_take (i := 4) (oi := ?_) (v := ?_) ?_ ?_ ?_ ?_ ?_ ?_ ?_ ?_ ?_ (Or.inl ⟨?_, ?_⟩) ?_ ?_
  rotate_left 2
  focus (simp only [List.getElem?_toArray, List.getElem?_cons_succ, List.getElem?_cons_zero]; exact rfl)
  iterate 7 focus kernel_rfl
  focus (exact fun _ _ _ h => h)
  focus rfl
  focus ((intro wSw hSw; (have hSw := hSw.out); (try dsimp only at hSw); go_simp) <;> with_reducible rfl)
  focus assumption
  try simp only [Act.put, List.setIfInBounds_toArray, List.set_cons_zero, List.set_cons_succ]
  refine wpAnyHL_take (i := 5) (oi := ?_) (v := ?_) ?_ ?_ ?_ ?_ ?_ ?_ ?_ ?_ ?_ (Or.inl ⟨?_, ?_⟩) ?_ ?_
  rotate_left 2
  focus (simp only [List.getElem?_toArray, List.getElem?_cons_succ, List.getElem?_cons_zero]; exact rfl)
  iterate 7 focus kernel_rfl
  focus (exact fun _ _ _ h => h)
  focus rfl
  focus ((intro wSw hSw; (have hSw := hSw.out); (try dsimp only at hSw); go_simp) <;> with_reducible rfl)
  focus assumption
  try simp only [Act.put, List.setIfInBounds_toArray, List.set_cons_zero, List.set_cons_succ]
  refine wpAnyHL_take (i := 6) (oi := ?_) (v := ?_) ?_ ?_ ?_ ?_ ?_ ?_ ?_ ?_ ?_ (Or.inl ⟨?_, ?_⟩) ?_ ?_
  rotate_left 2
  focus (simp only [List.getElem?_toArray, List.getElem?_cons_succ, List.getElem?_cons_zero]; exact rfl)
  iterate 7 focus kernel_rfl
  focus (exact fun _ _ _ h => h)
  focus rfl
  focus ((intro wSw hSw; (have hSw := hSw.out); (try dsimp only at hSw); go_simp) <;> with_reducible rfl)
  focus assumption
  try simp only [Act.put, List.setIfInBounds_toArray, List.set_cons_zero, List.set_cons_succ]
  refine wpAnyHL_take (i := 7) (oi := ?_) (v := ?_) ?_ ?_ ?_ ?_ ?_ ?_ ?_ ?_ ?_ (Or.inl ⟨?_, ?_⟩) ?_ ?_
  rotate_left 2
  focus (simp only [List.getElem?_toArray, List.getElem?_cons_succ, List.getElem?_cons_zero]; exact rfl)
  iterate 7 focus kernel_rfl
  focus (exact fun _ _ _ h => h)
  focus rfl
  focus ((intro wSw hSw; (have hSw := hSw.out); (try dsimp only at hSw); go_simp) <;> with_reducible rfl)
  focus assumption
  try simp only [Act.put, List.setIfInBounds_toArray, List.set_cons_zero, List.set_cons_succ]
  refine wpAnyHL_take (i := 8) (oi := ?_) (v := ?_) ?_ ?_ ?_ ?_ ?_ ?_ ?_ ?_ ?_ (Or.inl ⟨?_, ?_⟩) ?_ ?_
  rotate_left 2
  focus (simp only [List.getElem?_toArray, List.getElem?_cons_succ, List.getElem?_cons_zero]; exact rfl)
  iterate 7 focus kernel_rfl
  focus (exact fun _ _ _ h => h)
  focus rfl
  focus (intro wSw hSw; (have hSw := hSw.out); (refine run_load_row 26 (.tmp 33) ?_ p 0 ?_ _ _ (HRH13.out.keeps hSw) Tryz.underlying26 rfl ZH.out) <;> rfl)
  focus assumption
  try simp only [Act.put, List.setIfInBounds_toArray, List.set_cons_zero, List.set_cons_succ]
  refine wpAnyHL_one (i := 9) (o := ?_) (by kernel_rfl) (by kernel_rfl) ?_ ?_
  rotate_left 1
  focus (simp only [List.getElem?_toArray, List.getElem?_cons_succ, List.getElem?_cons_zero]; exact rfl)
  go_wp2_with (go_at_call 11; refine (HREH.out _).mono ?_; rintro e W16 ⟨v16, rfl, hO16⟩; obtain ⟨a16, c16, rfl⟩ := hO16.any; have HO16 := Lib.hid hO16; have HKB := Lib.hid (hHeld.out.trans hO16.keeps); clear hO16)
  try dsimp only [StepQ]
  refine ⟨?_, fun hHeld => ?_⟩
  focus (exact Lib.hid (HKB.out))
  try simp only [Act.put, List.setIfInBounds_toArray, List.set_cons_zero, List.set_cons_succ]
  have HB16 := Lib.hid (rb80 HO16.out HYL.out HYB.out)
  have HE2 := Lib.hid (requal_any (HY13.out.keeps HKB.out) HB16.out)
  rw [decide_eq_true rfl] at HE2
  refine wpAnyHL_one (i := 10) (o := ?_) (by kernel_rfl) (by kernel_rfl) ?_ ?_
  rotate_left 1
  focus (simp only [List.getElem?_toArray, List.getElem?_cons_succ, List.getElem?_cons_zero]; exact rfl)
  go_wp2_with (go_at_call 9; refine HE2.out.mono ?_; rintro e W17 ⟨rfl, rfl⟩)
  try dsimp only [StepQ]
  refine ⟨?_, fun hHeld => ?_⟩
  focus (exact Lib.hid (HKB.out))
  try simp only [Act.put, List.setIfInBounds_toArray, List.set_cons_zero, List.set_cons_succ]
  refine wpAnyHL_take (i := 11) (oi := ?_) (v := ?_) ?_ ?_ ?_ ?_ ?_ ?_ ?_ ?_ ?_ (Or.inl ⟨?_, ?_⟩) ?_ ?_
  rotate_left 2
  focus (simp only [List.getElem?_toArray, List.getElem?_cons_succ, List.getElem?_cons_zero]; exact rfl)
  iterate 7 focus kernel_rfl
  focus (exact fun _ _ _ h => h)
  focus rfl
  focus ((intro wSw hSw; (have hSw := hSw.out); (try dsimp only at hSw); go_simp) <;> with_reducible rfl)
  focus assumption
  try simp only [Act.put, List.setIfInBounds_toArray, List.set_cons_zero, List.set_cons_succ]
  refine wpAnyHL_take (i := 12) (oi := ?_) (v := ?_) ?_ ?_ ?_ ?_ ?_ ?_ ?_ ?_ ?_ (Or.inl ⟨?_, ?_⟩) ?_ ?_
  rotate_left 2
  focus (simp only [List.getElem?_toArray, List.getElem?_cons_succ, List.getElem?_cons_zero]; exact rfl)
  iterate 7 focus kernel_rfl
  focus (exact fun _ _ _ h => h)
  focus rfl
  focus ((intro wSw hSw; (have hSw := hSw.out); (try dsimp only at hSw); go_simp) <;> with_reducible rfl)
  focus assumption
  try simp only [Act.put, List.setIfInBounds_toArray, List.set_cons_zero, List.set_cons_succ]
  refine wpAnyHL_take (i := 13) (oi := ?_) (v := ?_) ?_ ?_ ?_ ?_ ?_ ?_ ?_ ?_ ?_ (Or.inl ⟨?_, ?_⟩) ?_ ?_
  rotate_left 2
  focus (simp only [List.getElem?_toArray, List.getElem?_cons_succ, List.getElem?_cons_zero]; exact rfl)
  iterate 7 focus kernel_rfl
  focus (exact fun _ _ _ h => h)
  focus rfl
  focus ((intro wSw hSw; (have hSw := hSw.out); (try dsimp only at hSw); go_simp) <;> with_reducible rfl)
  focus assumption
  try simp only [Act.put, List.setIfInBounds_toArray, List.set_cons_zero, List.set_cons_succ]
  refine wpAnyHL_take (i := 14) (oi := ?_) (v := ?_) ?_ ?_ ?_ ?_ ?_ ?_ ?_ ?_ ?_ (Or.inl ⟨?_, ?_⟩) ?_ ?_
  rotate_left 2
  focus (simp only [List.getElem?_toArray, List.getElem?_cons_succ, List.getElem?_cons_zero]; exact rfl)
  iterate 7 focus kernel_rfl
  focus (exact fun _ _ _ h => h)
  focus rfl
  focus ((intro wSw hSw; (have hSw := hSw.out); (try dsimp only at hSw); go_simp) <;> with_reducible rfl)
  focus assumption
  try simp only [Act.put, List.setIfInBounds_toArray, List.set_cons_zero, List.set_cons_succ]
  refine wpAnyHL_take (i := 15) (oi := ?_) (v := ?_) ?_ ?_ ?_ ?_ ?_ ?_ ?_ ?_ ?_ (Or.inl ⟨?_, ?_⟩) ?_ ?_
  rotate_left 2
  focus (simp only [List.getElem?_toArray, List.getElem?_cons_succ, List.getElem?_cons_zero]; exact rfl)
  iterate 7 focus kernel_rfl
  focus (exact fun _ _ _ h => h)
  focus rfl
  focus ((intro wSw hSw; (have hSw := hSw.out); (try dsimp only at hSw); go_simp) <;> with_reducible rfl)
  focus assumption
  try simp only [Act.put, List.setIfInBounds_toArray, List.set_cons_zero, List.set_cons_succ]
  refine wpAnyHL_take (i := 16) (oi := ?_) (v := ?_) ?_ ?_ ?_ ?_ ?_ ?_ ?_ ?_ ?_ (Or.inl ⟨?_, ?_⟩) ?_ ?_
  rotate_left 2
  focus (simp only [List.getElem?_toArray, List.getElem?_cons_succ, List.getElem?_cons_zero]; exact rfl)
  iterate 7 focus kernel_rfl
  focus (exact fun _ _ _ h => h)
  focus rfl
  focus ((intro wSw hSw; (have hSw := hSw.out); (try dsimp only at hSw); go_simp) <;> with_reducible rfl)
  focus assumption
  try simp only [Act.put, List.setIfInBounds_toArray, List.set_cons_zero, List.set_cons_succ]
  refine wpAnyHL_take (i := 17) (oi := ?_) (v := ?_) ?_ ?_ ?_ ?_ ?_ ?_ ?_ ?_ ?_ (Or.inl ⟨?_, ?_⟩) ?_ ?_
  rotate_left 2
  focus (simp only [List.getElem?_toArray, List.getElem?_cons_succ, List.getElem?_cons_zero]; exact rfl)
  iterate 7 focus kernel_rfl
  focus (exact fun _ _ _ h => h)
  focus rfl
  focus ((intro wSw hSw; (have hSw := hSw.out); (try dsimp only at hSw); go_simp) <;> with_reducible rfl)
  focus assumption
  try simp only [Act.put, List.setIfInBounds_toArray, List.set_cons_zero, List.set_cons_succ]
  refine wpAnyHL_take (i := 18) (oi := ?_) (v := ?_) ?_ ?_ ?_ ?_ ?_ ?_ ?_ ?_ ?_ (Or.inl ⟨?_, ?_⟩) ?_ ?_
  rotate_left 2
  focus (simp only [List.getElem?_toArray, List.getElem?_cons_succ, List.getElem?_cons_zero]; exact rfl)
  iterate 7 focus kernel_rfl
  focus (exact fun _ _ _ h => h)
  focus rfl
  focus (intro wSw hSw; (have hSw := hSw.out); (refine run_load_row 26 (.tmp 5) ?_ ph 0 ?_ _ _ (HR13.out.keeps hSw) Tryz.underlying26 rfl ZH.out) <;> rfl)
  focus assumption
  try simp only [Act.put, List.setIfInBounds_toArray, List.set_cons_zero, List.set_cons_succ]
  refine wpAnyHL_take (i := 19) (oi := ?_) (v := ?_) ?_ ?_ ?_ ?_ ?_ ?_ ?_ ?_ ?_ (Or.inl ⟨?_, ?_⟩) ?_ ?_
  rotate_left 2
  focus (simp only [List.getElem?_toArray, List.getElem?_cons_succ, List.getElem?_cons_zero]; exact rfl)
  iterate 7 focus kernel_rfl
  focus (exact fun _ _ _ h => h)
  focus rfl
  focus ((intro wSw hSw; (have hSw := hSw.out); (try dsimp only at hSw); go_simp) <;> with_reducible rfl)
  focus assumption
  try simp only [Act.put, List.setIfInBounds_toArray, List.set_cons_zero, List.set_cons_succ]
  refine wpAnyHL_take (i := 20) (oi := ?_) (v := ?_) ?_ ?_ ?_ ?_ ?_ ?_ ?_ ?_ ?_ (Or.inl ⟨?_, ?_⟩) ?_ ?_
  rotate_left 2
  focus (simp only [List.getElem?_toArray, List.getElem?_cons_succ, List.getElem?_cons_zero]; exact rfl)
  iterate 7 focus kernel_rfl
  focus (exact fun _ _ _ h => h)
  focus rfl
  focus (intro wSw hSw; (have hSw := hSw.out); (refine run_load_row 26 (.tmp 45) ?_ p 0 ?_ _ _ (HRH13.out.keeps hSw) Tryz.underlying26 rfl ZH.out) <;> rfl)
  focus assumption
  try simp only [Act.put, List.setIfInBounds_toArray, List.set_cons_zero, List.set_cons_succ]
  refine wpAnyHL_take (i := 21) (oi := ?_) (v := ?_) ?_ ?_ ?_ ?_ ?_ ?_ ?_ ?_ ?_ (Or.inl ⟨?_, ?_⟩) ?_ ?_
  rotate_left 2
  focus (simp only [List.getElem?_toArray, List.getElem?_cons_succ, List.getElem?_cons_zero]; exact rfl)
  iterate 7 focus kernel_rfl
  focus (exact fun _ _ _ h => h)
  focus rfl
  focus (intro wSw hSw; (have hSw := hSw.out); (refine run_neq_at 26 26 (.tmp 44) (.tmp 46) ?_ _ _ ?_ ?_ true HEQH.out (by kernel_rfl)) <;> rfl)
  focus assumption
  try simp only [Act.put, List.setIfInBounds_toArray, List.set_cons_zero, List.set_cons_succ]
  refine wpAnyHL_take (i := 22) (oi := ?_) (v := ?_) ?_ ?_ ?_ ?_ ?_ ?_ ?_ ?_ ?_ (Or.inl ⟨?_, ?_⟩) ?_ ?_
  rotate_left 2
  focus (simp only [List.getElem?_toArray, List.getElem?_cons_succ, List.getElem?_cons_zero]; exact rfl)
  iterate 7 focus kernel_rfl
  focus (exact fun _ _ _ h => h)
  focus rfl
  focus ((intro wSw hSw; (have hSw := hSw.out); (try dsimp only at hSw); go_simp) <;> with_reducible rfl)
  focus assumption
  try simp only [Act.put, List.setIfInBounds_toArray, List.set_cons_zero, List.set_cons_succ]
  refine wpAnyHL_take (i := 23) (oi := ?_) (v := ?_) ?_ ?_ ?_ ?_ ?_ ?_ ?_ ?_ ?_ (Or.inl ⟨?_, ?_⟩) ?_ ?_
  rotate_left 2
  focus (simp only [List.getElem?_toArray, List.getElem?_cons_succ, List.getElem?_cons_zero]; exact rfl)
  iterate 7 focus kernel_rfl
  focus (exact fun _ _ _ h => h)
  focus rfl
  focus ((intro wSw hSw; (have hSw := hSw.out); (try dsimp only at hSw); go_simp) <;> with_reducible rfl)
  focus assumption
  try simp only [Act.put, List.setIfInBounds_toArray, List.set_cons_zero, List.set_cons_succ]
  refine wpAnyHL_take (i := 24) (oi := ?_) (v := ?_) ?_ ?_ ?_ ?_ ?_ ?_ ?_ ?_ ?_ (Or.inl ⟨?_, ?_⟩) ?_ ?_
  rotate_left 2
  focus (simp only [List.getElem?_toArray, List.getElem?_cons_succ, List.getElem?_cons_zero]; exact rfl)
  iterate 7 focus kernel_rfl
  focus (exact fun _ _ _ h => h)
  focus rfl
  focus ((intro wSw hSw; (have hSw := hSw.out); (try dsimp only at hSw); go_simp) <;> with_reducible rfl)
  focus assumption
  try simp only [Act.put, List.setIfInBounds_toArray, List.set_cons_zero, List.set_cons_succ]
  refine wpAnyHL_take (i := 25) (oi := ?_) (v := ?_) ?_ ?_ ?_ ?_ ?_ ?_ ?_ ?_ ?_ (Or.inl ⟨?_, ?_⟩) ?_ ?_
  rotate_left 2
  focus (simp only [List.getElem?_toArray, List.getElem?_cons_succ, List.getElem?_cons_zero]; exact rfl)
  iterate 7 focus kernel_rfl
  focus (exact fun _ _ _ h => h)
  focus rfl
  focus (intro wSw hSw; (have hSw := hSw.out); (refine run_load_row 26 (.tmp 50) ?_ p 0 ?_ _ _ (HRH13.out.keeps hSw) Tryz.underlying26 rfl ZH.out) <;> rfl)
  focus assumption
  try simp only [Act.put, List.setIfInBounds_toArray, List.set_cons_zero, List.set_cons_succ]
  refine wpAnyHL_take (i := 27) (oi := ?_) (v := ?_) ?_ ?_ ?_ ?_ ?_ ?_ ?_ ?_ ?_ (Or.inl ⟨?_, ?_⟩) ?_ ?_
  rotate_left 2
  focus (simp only [List.getElem?_toArray, List.getElem?_cons_succ, List.getElem?_cons_zero]; exact rfl)
  iterate 7 focus kernel_rfl
  focus (exact fun _ _ _ h => h)
  focus rfl
  focus ((intro wSw hSw; (have hSw := hSw.out); (try dsimp only at hSw); go_simp) <;> with_reducible rfl)
  focus assumption
  try simp only [Act.put, List.setIfInBounds_toArray, List.set_cons_zero, List.set_cons_succ]
  refine wpAnyHL_take (i := 28) (oi := ?_) (v := ?_) ?_ ?_ ?_ ?_ ?_ ?_ ?_ ?_ ?_ (Or.inl ⟨?_, ?_⟩) ?_ ?_
  rotate_left 2
  focus (simp only [List.getElem?_toArray, List.getElem?_cons_succ, List.getElem?_cons_zero]; exact rfl)
  iterate 7 focus kernel_rfl
  focus (exact fun _ _ _ h => h)
  focus rfl
  focus (intro wSw hSw; (have hSw := hSw.out); (refine run_load_row 26 (.tmp 53) ?_ p 0 ?_ _ _ (HRH13.out.keeps hSw) Tryz.underlying26 rfl ZH.out) <;> rfl)
  focus assumption
  try simp only [Act.put, List.setIfInBounds_toArray, List.set_cons_zero, List.set_cons_succ]
  refine wpAnyHL_one (i := 26) (o := ?_) (by kernel_rfl) (by kernel_rfl) ?_ ?_
  rotate_left 1
  focus (simp only [List.getElem?_toArray, List.getElem?_cons_succ, List.getElem?_cons_zero]; exact rfl)
  go_wp2_with (go_at_call 12; refine (HID.out _).mono ?_; rintro e W18 ⟨rfl, hk18⟩; have HKC := Lib.hid (hHeld.out.trans hk18); clear hk18)
  try dsimp only [StepQ]
  refine ⟨?_, fun hHeld => ?_⟩
  focus (exact Lib.hid (HKC.out))
  try simp only [Act.put, List.setIfInBounds_toArray, List.set_cons_zero, List.set_cons_succ]
  refine wpAnyHL_one (i := 29) (o := ?_) (by kernel_rfl) (by kernel_rfl) ?_ ?_
  rotate_left 1
  focus (simp only [List.getElem?_toArray, List.getElem?_cons_succ, List.getElem?_cons_zero]; exact rfl)
  go_wp2_with (go_at_call 13; refine (HRID.out _).mono ?_; rintro e W19 ⟨rfl, hk19⟩; have HKE := Lib.hid (hHeld.out.trans hk19); clear hk19)
  try dsimp only [StepQ]
  refine ⟨?_, fun hHeld => ?_⟩
  focus (exact Lib.hid (HKE.out))
  try simp only [Act.put, List.setIfInBounds_toArray, List.set_cons_zero, List.set_cons_succ]
  refine wpAnyHL_done (by kernel_rfl) ?_
  try simp only [List.drop_succ_cons, List.drop_zero]
  refine wpList_neq_at (by kernel_rfl) 23 23 (.tmp 52) (.tmp 55) rfl _ _ rfl rfl true HEQI.out (by kernel_rfl) ?_
  simp only [Act.put, List.setIfInBounds_toArray, List.set_cons_zero, List.set_cons_succ]
  have HKF := Lib.hid hHeld.out
  clear hHeld HE1 HE2 HB14 HB16 HO14 HO16 HKA HKB HKC HKE HREH HID HRID HRE HRENC HEQI HEQH HR13 HRH13 HY13
  have HKW := Lib.hid (HKW13.out.trans HKF.out)
  have HX := Lib.hid (HX13.out.keeps HKF.out)
  have HRB := Lib.hid (HRB13.out.keeps HKF.out)
  have HT := Lib.hid (HT13.out.keeps HKF.out)
  clear HKW13 HX13 HRB13 HT13 HKF
  generalize W19 = WA at *
  obtain ⟨ta3, tc3, rfl, htc3, htm3⟩ := HT.out.any
  have hsm3 := HT.out.small
  go_upto_region 10 with (first
    | (go_at_call 14; refine (HDEC.out HXY.out _ _ HX.out.rd).mono ?_; intro r W20 hpst; obtain ⟨hk20, hok20, a20, c20, rfl, ht20⟩ := hpst; have HK20 := Lib.hid hk20; have HOK20 := Lib.hid hok20; have HT20 := Lib.hid ht20; clear hk20 hok20 ht20)
    | ((with_reducible refine gate_store 29 (.tmp 7) (.tmp 61) ?_); refine wpList_store_row rfl 29 (.tmp 7) (.tmp 61) rfl W20.heap.size 0 rfl (blkCells (hd0 0) (.slice none 0 0)) (blkCells XH (.slice a20 XT.length c20)) rfl (Row.new _ _ _ rfl) (by rw [blkCells_len _ HOK20.out.prevLen HOK20.out.merkleLen, blkCells_len _ rfl rfl]) (bd_sz_blk _ HOK20.out.prevLen HOK20.out.merkleLen) (blkCells_one _ _ _ _) ?_; intro W21 hr21 hc21; have HR21 := Lib.hid hr21; have HKX := Lib.hid (keeps_chg (keeps_alloc (Keeps.refl W20) _) hc21 (Nat.le_refl _)); clear hr21 hc21))
  generalize W20.heap.size = pb at *
  have HK21 := Lib.hid (HK20.out.trans HKX.out)
  have HT21 := Lib.hid (HT20.out.keeps HKX.out)
  have HKW2 := Lib.hid (HKW.out.trans HK21.out)
  have HX2 := Lib.hid (HX.out.keeps HK21.out)
  have HRB2 := Lib.hid (HRB.out.keeps HK21.out)
  have HT2 := Lib.hid (HT.out.keeps HK21.out)
  clear HK20 HKX HT20 HKW HX HRB HT HK21 HDEC
  have hb68 := (blk_cell HRB2.out HL.out).1
  go_wp2
  go_loopw [66] (fun c wr => ∃ i : Nat, i ≤ D.length ∧ c = .int .i64 i ∧ Hid (Keeps W21 wr) ∧ Hid (∀ j, j < i → ∀ d, D[j]? = some d → d.ins ≠ [])) (fun c _ => (D.length - intOf c).toNat)
  case atStart => exact ⟨0, by omega, rfl, Lib.hid (Keeps.refl _), Lib.hid (fun j hj => by omega)⟩
  case round =>
    obtain ⟨i, hi, rfl, HKR, HNE⟩ := hrel
    clear hb68
    by_cases hlt : i < D.length
    · obtain ⟨g, off, iv, ov, d, rfl, hg, hdi, hrow, hrtx⟩ := (HT2.out.keeps HKR.out).at hlt
      have HROW := Lib.hid hrow; have HDI := Lib.hid hdi
      obtain ⟨ia, ic, rfl, -⟩ := hrtx.ins.any
      obtain ⟨oa, oc, rfl, -⟩ := hrtx.outs.any
      clear hdi hrow hrtx
      go_upto_region 13 with (first | ((with_reducible refine gate_load 46 (.tmp 68) ?_); refine wpList_load_at rfl 46 (.tmp 68) rfl g (off + i * 4) rfl _ _ HROW.out Tryz.underlying46 rfl (sz_tx _ _ _ _) ?_) | ((with_reducible refine gate_store 46 (.tmp 9) (.tmp 69) ?_); refine wpList_store_row rfl 46 (.tmp 9) (.tmp 69) rfl _ 0 rfl _ (txCells d _ _) rfl (Row.new [.int .i32 0, .slice none 0 0, .slice none 0 0, .int .u32 0] _ _ rfl) rfl (sz_tx _ _ _ _) (four_one _ _ _ _ _ _ _ _) ?_; intro W5 hr5 hc5; have HR5 := Lib.hid hr5; have HC5 := Lib.hid hc5; clear hr5 hc5))
      have HK5 := Lib.hid (keeps_chg (keeps_alloc (Keeps.refl wr) _) HC5.out (Nat.le_refl _))
      obtain ⟨q, hq⟩ : ∃ q, q = wr.heap.size := ⟨_, rfl⟩
      rw [← hq] at HR5 ⊢
      clear hq HC5
      obtain ⟨z0, z1, z2, z3⟩ := (show Row W5 q 0 [.int .i32 d.ver, .slice ia d.ins.length ic, .slice oa d.outs.length oc, .int .u32 d.lock] from HR5.out).cell4
      by_cases h0 : d.ins.length = 0
      · have h1 : (d.ins.length : Int) = 0 := by omega
        go_upto_region 15 with (first
          | (go_at_call 15; refine (HRDEC.out _ _ _ (HX2.out.keeps (HKR.out.trans HK5.out))).mono ?_; intro r W6 hpst; obtain ⟨hk6, hok6, a6, c6, rfl, ht6⟩ := hpst; have HK6 := Lib.hid hk6; clear hk6 hok6 ht6)
          | ((with_reducible refine gate_store 29 (.tmp 10) (.tmp 77) ?_); refine wpList_store_row rfl 29 (.tmp 10) (.tmp 77) rfl W6.heap.size 0 rfl (blkCells (hd0 0) (.slice none 0 0)) (blkCells XH (.slice a6 XT.length c6)) rfl (Row.new _ _ _ rfl) (by rw [blkCells_len _ HOK20.out.prevLen HOK20.out.merkleLen, blkCells_len _ rfl rfl]) (bd_sz_blk _ HOK20.out.prevLen HOK20.out.merkleLen) (blkCells_one _ _ _ _) ?_; intro W7 hr7 hc7; have HK7 := Lib.hid (keeps_chg (keeps_alloc (Keeps.refl W6) _) hc7 (Nat.le_refl _)); clear hr7 hc7))
        go_wp2
        go_ret
        exact ⟨by first | rfl | exact ret_bool (by simp), (HKW2.out.trans (HKR.out.trans HK5.out)).trans (HK6.out.trans HK7.out)⟩
      · have h1 : ¬ (d.ins.length : Int) = 0 := by omega
        have hne : d.ins ≠ [] := fun e => h0 (by rw [e]; rfl)
        have HNX := Lib.hid hne
        clear h0 hne
        go_wp2
        go_roundw
        case rel =>
          refine ⟨i + 1, by omega, by go_num, Lib.hid (HKR.out.trans HK5.out), Lib.hid fun j hj d' hd' => ?_⟩
          by_cases hji : j = i
          · subst hji
            have := HDI.out
            rw [hd'] at this
            cases this
            exact HNX.out
          · exact HNE.out j (by omega) d' hd'
        case measure => simp [intOf]; omega
    · obtain rfl : i = D.length := by omega
      have hall : ∀ d ∈ D, d.ins ≠ [] := fun d hd => by
        obtain ⟨j, hj, e⟩ := List.getElem_of_mem hd
        exact HNE.out j hj d (by rw [List.getElem?_eq_getElem hj, e])
      obtain ⟨e1, e2, e3⟩ := HDX.out HCOD.out hall
      have hs := rbsame_any XH h HOK20.out HOK.out (.slice a20 XT.length c20) (.slice ta3 D.length tc3) XT D wr (HT21.out.keeps HKR.out) (HT2.out.keeps HKR.out)
      rw [decide_eq_true ⟨e1, e2⟩, HBC.out] at hs
      have HSAME := Lib.hid hs
      have HRA := Lib.hid (HR21.out.keeps HKR.out); have HRC := Lib.hid (HRB2.out.keeps HKR.out)
      have ZB := Lib.hid (bd_sz_blk (.slice a20 XT.length c20) HOK20.out.prevLen HOK20.out.merkleLen)
      clear hs e1 e2 hall
      subst e3
      generalize blkCells XH (.slice a20 XT.length c20) = B1 at *
      go_wp2_with (first
        | ((with_reducible refine gate_load 29 (.tmp 7) ?_); refine wpList_load_on (by kernel_rfl) 29 (.tmp 7) rfl pb 0 rfl _ _ HRA.out Tryz.underlying29 rfl ZB.out ?_)
        | ((with_reducible refine gate_load 29 (.tmp 1) ?_); refine wpList_load_on (by kernel_rfl) 29 (.tmp 1) rfl p 0 rfl _ _ HRC.out Tryz.underlying29 rfl (sz_blk _ _ HL.out) ?_)
        | (go_at_call 16; refine HSAME.out.mono ?_; rintro r W8 ⟨rfl, hk8⟩; have HK8 := Lib.hid hk8; clear hk8))
      go_ret
      exact ⟨by first | rfl | exact ret_bool (by simp), (HKW2.out.trans HKR.out).trans HK8.out⟩
end Go.Proofs.YtcodpdpeklammaaGreatDoor
