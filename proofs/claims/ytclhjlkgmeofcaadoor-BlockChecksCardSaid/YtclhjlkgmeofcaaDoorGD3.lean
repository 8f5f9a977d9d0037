/- A block as bytes, in both. | bytes.TrimLeft of noughts, block.Bits: a number as bits. | The reference's Limit and Bits. -/
import Derived.Test.YtclhjlkgmeofcaaDoorGD1
import Derived.Test.YtclhjlkgmeofcaaDoorGD2
import Derived.Test.YtclhjlkgmeofcaaDoorGC3
import Derived.Test.YtclhjlkgmeofcaaDoorGB5
import Derived.Test.YtclhjlkgmeofcaaDoorGB3
import Derived.Test.YtclhjlkgmeofcaaDoorGC2
namespace Go.Proofs.YtclhjlkgmeofcaaDoor
set_option linter.unusedVariables false
set_option linter.unusedSimpArgs false
open Go Go.RowKit

def txB (d : TxD) : List Int := textB (encB d true)
/-- a block's bytes -/
def blkB (hb : List Int) (l : List TxD) : List Int := hb ++ sizeB (l.length : Int) ++ l.flatMap txB
theorem txB_le (d : TxD) (h : Fits d) : (txB d).length ≤ 1000000000020 := by
  have h1 := enc_le d true h
  have h2 := sizeB_len ((encB d true).length : Int)
  have h3 : (txB d).length = (sizeB ((encB d true).length : Int)).length + (encB d true).length := by unfold txB textB; simp
  omega
theorem txflat_le : ∀ (l : List TxD), (∀ d ∈ l, Fits d) → (l.flatMap txB).length ≤ l.length * 1000000000020
  | [], _ => by simp
  | d :: r, h => by
    have h1 := txB_le d (h d (by simp))
    have h2 := txflat_le r (fun x hx => h x (by simp [hx]))
    rw [List.flatMap_cons, List.length_append, List.length_cons]
    omega
theorem WrAt.step {w0 W W' : World} {g : Nat} {v : Value} {n : Nat} {l : List Int} (h : WrAt w0 W g v n l) (hk : Keeps W W') : WrAt w0 W' g v n l := ⟨h.own.step hk, h.row.keeps hk, h.new, h.apart⟩
theorem blk_head {w : World} {p : Nat} {hc : List Value} {tv : Value} (h : Row w p 0 (hc ++ [tv])) (hl : hc.length = 68) : Row w p 0 hc := by
  have := h.take 68
  rwa [List.take_left' hl] at this
/-- what was just made lies apart from the writer -/
theorem own_apart {W wr W5 W6 : World} {g n m : Nat} {v x : Value} {l xs : List Int} (hO : Own W5 W6 x m xs) (hk : Keeps wr W5) (hw : WrAt W wr g v n l) : ∀ b, x.ownBlock = some b → b ≠ g ∧ v.ownBlock ≠ some b ∧ b < W6.heap.size := by
  intro b hb
  have h1 := hO.new b hb
  have h2 := hO.buf.lt hb
  have h3 := hk.size
  have h4 : g < wr.heap.size := hw.row.lt (by simp)
  refine ⟨by omega, fun e => ?_, h2⟩
  have := hw.own.buf.lt e
  omega
set_option maxRecDepth 100000 in
set_option maxHeartbeats 8000000 in
theorem benc_any (ver : Int) (prev merkle : List Int) (t b n : Int) (hok : HeadOk ver prev merkle t b n) (S T R : Nat → Prop) (tv : Value) (l : List TxD) (hf : ∀ d ∈ l, Fits d) (h12 : l.length ≤ 12) (w : World) (h : RTxs S T R w tv l) (hS : ∀ g, S g → g < w.heap.size) :
    Calls Tryd.prog 42 #[.agg (headCells ver prev merkle t b n ++ [tv]).toArray] w fun e w' => ∃ v, e = .returned v ∧ Own w w' v (blkB (headB ver prev merkle t b n) l).length (blkB (headB ver prev merkle t b n) l) := by
  have HT := Lib.hid h; have HF := Lib.hid hf; have HS := Lib.hid hS
  obtain ⟨a, cap, rfl, hcap, hcm⟩ := h.any
  have hl := headCells_length hok
  have HE := Lib.hid (fun W => encodeHeader_any ver prev merkle t b n hok.prevLen hok.merkleLen hok.time hok.bits hok.nonce W)
  have ZH : Hid ((Tryd.prog.info? 27).map (·.size) = some (headCells ver prev merkle t b n).length) := Lib.hid (sz_head ver prev merkle t b n hok.prevLen hok.merkleLen)
  have hfl := txflat_le l hf
  have hft : ∀ i, ((l.take i).flatMap txB).length ≤ (l.flatMap txB).length := fun i => flat_take_le txB l i
  have HFT := Lib.hid hft
  have hbl : (headB ver prev merkle t b n).length = 80 := by unfold headB; simp [leB_length, hok.prevLen, hok.merkleLen]
  have hbb : blkB (headB ver prev merkle t b n) l = headB ver prev merkle t b n ++ sizeB (l.length : Int) ++ l.flatMap txB := rfl
  rw [hbb]
  have hsl := sizeB_len (l.length : Int)
  have HLL := Lib.hid hl
  clear h hf hS hok hbb hft hl
  generalize headCells ver prev merkle t b n = HC at *
  generalize headB ver prev merkle t b n = HB at *
  go_enter Tryd.func42, Tryd.ntmps42
  go_upto_region 1 with (fail)
  refine wp_rows1 (fun W hk hr hs => ?_)
  obtain ⟨p, hp'⟩ : ∃ p, p = w.heap.size := ⟨_, rfl⟩
  rw [← hp'] at hr hs ⊢
  have HR := Lib.hid (show Row W p 0 (HC ++ [.slice a l.length cap]) by simpa using hr); have HK := Lib.hid hk
  clear hr hk hs hp'
  go_upto_region 2 with (fail)
  have hw0 : WrAt W (W.alloc (.cells #[.slice none 0 0] 119)) W.heap.size (.slice none 0 0) 0 [] := ⟨(Own.nil W).step (keeps_alloc (Keeps.refl _) _), Row.new _ _ _ rfl, Nat.le_refl _, by simp [Value.ownBlock]⟩
  obtain ⟨g, hg⟩ : ∃ g, g = W.heap.size := ⟨_, rfl⟩
  rw [← hg] at hw0 ⊢
  generalize W.alloc (.cells #[.slice none 0 0] 119) = W0 at *
  have HW0 := Lib.hid hw0
  have HG := Lib.hid hg
  clear hw0 hg
  have HRB := Lib.hid (blk_head HR.out HLL.out)
  have HBC := Lib.hid (fun W' (hk : Keeps W W') => (blk_cell (HR.out.keeps hk) HLL.out).1)
  go_upto_region 3 with (first | ((with_reducible refine gate_load 27 (.tmp 6) ?_); refine wpList_load_at rfl 27 (.tmp 6) rfl p 0 rfl _ _ (HRB.out.keeps HW0.out.own.keeps) Tryd.underlying27 rfl ZH.out ?_) | (go_at_call 26; refine (HE.out _).mono ?_; rintro e W1 ⟨v1, rfl, hO1⟩; have HO1 := Lib.hid hO1; clear hO1) | (go_at_call 65; refine (wraw_any W g _ _ _ _ 80 HB (by omega) _ (HW0.out.step HO1.out.keeps) HO1.out.rd).mono ?_; rintro e W2 ⟨rfl, v2, hv2, hg2⟩; have HW2 := Lib.hid hv2; clear hv2 hg2))
  have b0 := HBC.out _ HW2.out.own.keeps
  have hmw : IntKind.u64.wrap (l.length : Int) = l.length := by rw [IntKind.wrap_u64]; omega
  go_upto_region 4 with (go_at_call 87; refine (wsize_any W g _ _ _ (l.length : Int) (by omega) (by omega) (by omega) _ HW2.out).mono ?_; rintro e W3 ⟨rfl, v3, hv3, hg3⟩; have HW3 := Lib.hid hv3; clear hv3 hg3)
  have b1 := HBC.out _ HW3.out.own.keeps
  have hv3 := HW3.out.norm (r := HB ++ sizeB (l.length : Int)) (by simp)
  have hpl : (HB ++ sizeB (l.length : Int)).length ≤ 89 := by rw [List.length_append]; omega
  generalize hPS : HB ++ sizeB (l.length : Int) = PS at *
  have HPS := Lib.hid hPS
  have HV3 := Lib.hid hv3
  have hbig : (l.flatMap txB).length ≤ 12000000000240 := by
    have : l.length * 1000000000020 ≤ 12 * 1000000000020 := Nat.mul_le_mul_right _ h12
    omega
  clear hv3 hPS hfl HW3 HW2 HW0 HO1 hsl b0 hmw
  go_wp2
  go_loopw [18] (fun c wr => ∃ i : Nat, i ≤ l.length ∧ c = .int .i64 i ∧ ∃ v, Hid (WrAt W wr g v (PS ++ (l.take i).flatMap txB).length (PS ++ (l.take i).flatMap txB))) (fun c _ => (l.length - intOf c).toNat)
  case atStart => exact ⟨0, by omega, rfl, _, Lib.hid (HV3.out.norm (by simp))⟩
  case round =>
    obtain ⟨i, hi, rfl, v, HV⟩ := hrel
    clear b1
    by_cases hlt : i < l.length
    · obtain ⟨g2, off, iv, ov, d, rfl, hg2, hdi, hrow, hrtx⟩ := (HT.out.keeps (HK.out.trans HV.out.own.keeps)).at hlt
      have hfd := HF.out d (List.mem_of_getElem? hdi)
      have HE2 := Lib.hid (fun W' (hk : Keeps wr W') => enc_any S T R d iv ov true hfd W' (hrtx.keeps hk) (fun x hx => Nat.lt_of_lt_of_le (HS.out x hx) ((HK.out.trans HV.out.own.keeps).trans hk).size))
      have hstep := take_flat txB l i d hdi
      have htb : txB d = textB (encB d true) := rfl
      have hle := enc_le d true hfd
      have hb2 := HFT.out i
      have HROW := Lib.hid hrow; have HSTEP := Lib.hid hstep; have HTB := Lib.hid htb
      obtain ⟨ia, ic, rfl, -⟩ := hrtx.ins.any
      obtain ⟨oa, oc, rfl, -⟩ := hrtx.outs.any
      clear hdi hrow hrtx hfd hstep htb
      generalize encB d true = EB at *
      generalize (l.take i).flatMap txB = QL at *
      have hqq : (PS ++ QL).length ≤ 12000000000400 := by rw [List.length_append]; omega
      generalize hPX : PS ++ QL = PX at *
      have HPX := Lib.hid hPX
      clear hPX
      go_upto_region 7 with (first | ((with_reducible refine gate_load 66 (.tmp 20) ?_); refine wpList_load_at rfl 66 (.tmp 20) rfl g2 (off + i * 4) rfl _ _ HROW.out Tryd.underlying66 rfl (sz_tx _ _ _ _) ?_) | ((with_reducible refine gate_store 66 (.tmp 5) (.tmp 21) ?_); refine wpList_store_row rfl 66 (.tmp 5) (.tmp 21) rfl _ 0 rfl _ (txCells d _ _) rfl (Row.new [.int .i32 0, .slice none 0 0, .slice none 0 0, .int .u32 0] _ _ rfl) rfl (sz_tx _ _ _ _) (four_one _ _ _ _ _ _ _ _) ?_; intro W5 hr5 hc5; have HR5 := Lib.hid hr5; have HC5 := Lib.hid hc5; clear hr5 hc5))
      have HK5 := Lib.hid (keeps_chg (keeps_alloc (Keeps.refl wr) _) HC5.out (Nat.le_refl _))
      have hgw : g < wr.heap.size := HV.out.row.lt (by simp)
      obtain ⟨q, hq⟩ : ∃ q, q = wr.heap.size := ⟨_, rfl⟩
      rw [← hq] at HR5 ⊢
      have HQ := Lib.hid hq
      clear hq HC5
      go_wp2_with (first | ((with_reducible refine gate_load 66 (.tmp 5) ?_); refine wpList_load_at rfl 66 (.tmp 5) rfl q 0 rfl _ _ HR5.out Tryd.underlying66 rfl (sz_tx _ _ _ _) ?_) | (go_at_call 76; refine (HE2.out _ HK5.out).mono ?_; rintro e W6 ⟨v6, rfl, hO6⟩; obtain ⟨a6, c6, rfl⟩ := hO6.any; have HO6 := Lib.hid hO6; clear hO6) | (go_at_call 88; refine (wbytes_any W g _ _ _ _ EB (by omega) _ (HV.out.step (HK5.out.trans HO6.out.keeps)) HO6.out.rd (own_apart HO6.out HK5.out HV.out)).mono ?_; rintro e W10 ⟨rfl, v10, hv10, hg10⟩; have HV10 := Lib.hid hv10; clear hv10 hg10))
      go_roundw
      case rel => exact ⟨i + 1, by omega, by go_num, _, Lib.hid (HV10.out.norm (by rw [HSTEP.out, ← HPX.out, HTB.out, List.append_assoc]))⟩
      case measure => simp [intOf]; omega
    · obtain rfl : i = l.length := by omega
      rw [List.take_length] at HV
      have hqq : (PS ++ l.flatMap txB).length ≤ 12000000000400 := by rw [List.length_append]; omega
      generalize hPX : PS ++ l.flatMap txB = PX at *
      have HPX := Lib.hid hPX
      clear hPX
      go_wp2_with (go_at_call 66; refine (wout_any W g _ _ _ (by omega) _ HV.out).mono ?_; rintro e W17 ⟨v17, rfl, hO17⟩; have HO17 := Lib.hid hO17; clear hO17)
      go_ret
      exact ⟨v17, rfl, by rw [HPS.out, HPX.out]; exact Own.keepsW (HK.out.trans HV.out.own.keeps) HO17.out⟩
set_option maxRecDepth 100000 in
set_option maxHeartbeats 8000000 in
theorem rbenc_any (ver : Int) (prev merkle : List Int) (t b n : Int) (hok : HeadOk ver prev merkle t b n) (S T R : Nat → Prop) (tv : Value) (l : List TxD) (hf : ∀ d ∈ l, Fits d) (h12 : l.length ≤ 12) (w : World) (h : RTxs S T R w tv l) :
    Calls Tryd.prog 46 #[.agg (headCells ver prev merkle t b n ++ [tv]).toArray] w fun e w' => ∃ v, e = .returned v ∧ Own w w' v (blkB (headB ver prev merkle t b n) l).length (blkB (headB ver prev merkle t b n) l) := by
  have HT := Lib.hid h; have HF := Lib.hid hf
  obtain ⟨a, cap, rfl, hcap, hcm⟩ := h.any
  have hl := headCells_length hok
  have HE := Lib.hid (fun W => rencodeHeader_any ver prev merkle t b n hok.prevLen hok.merkleLen hok.time hok.bits hok.nonce W)
  have HSZ := Lib.hid (fun W => size_any (l.length : Int) (by omega) (by omega) W)
  have ZH : Hid ((Tryd.prog.info? 27).map (·.size) = some (headCells ver prev merkle t b n).length) := Lib.hid (sz_head ver prev merkle t b n hok.prevLen hok.merkleLen)
  have hfl := txflat_le l hf
  have hft : ∀ i, ((l.take i).flatMap txB).length ≤ (l.flatMap txB).length := fun i => flat_take_le txB l i
  have HFT := Lib.hid hft
  have hbl : (headB ver prev merkle t b n).length = 80 := by unfold headB; simp [leB_length, hok.prevLen, hok.merkleLen]
  have hbb : blkB (headB ver prev merkle t b n) l = headB ver prev merkle t b n ++ sizeB (l.length : Int) ++ l.flatMap txB := rfl
  rw [hbb]
  have hsl := sizeB_len (l.length : Int)
  have hmw : IntKind.u64.wrap (l.length : Int) = l.length := by rw [IntKind.wrap_u64]; omega
  have HLL := Lib.hid hl; have HBL := Lib.hid hbl
  have hbig : (l.flatMap txB).length ≤ 12000000000240 := by
    have : l.length * 1000000000020 ≤ 12 * 1000000000020 := Nat.mul_le_mul_right _ h12
    omega
  clear h hf hok hbb hft hl hfl
  generalize headCells ver prev merkle t b n = HC at *
  generalize headB ver prev merkle t b n = HB at *
  generalize sizeB (l.length : Int) = SB at *
  go_enter Tryd.func46, Tryd.ntmps46
  go_upto_region 1 with (fail)
  refine wp_rows1 (fun W0 hk hr hs => ?_)
  obtain ⟨p, hp'⟩ : ∃ p, p = w.heap.size := ⟨_, rfl⟩
  rw [← hp'] at hr hs ⊢
  have HR := Lib.hid (show Row W0 p 0 (HC ++ [.slice a l.length cap]) by simpa using hr); have HK := Lib.hid hk
  clear hr hk hs hp'
  have HRB := Lib.hid (blk_head HR.out HLL.out)
  have HBC := Lib.hid (fun W' (hk : Keeps W0 W') => (blk_cell (HR.out.keeps hk) HLL.out).1)
  refine wp_region_head (S := fun W => Hid ((fun W' => Keeps W0 W' ∧ W'.cell? ⟨p, 68, none⟩ = some (.slice a l.length cap)) W)) 8 (by kernel_rfl) (by kernel_rfl) ?_ (fun hHeld => ?_)
  focus exact Lib.hid ⟨keeps_drew (Keeps.refl W0), HBC.out _ (keeps_drew (Keeps.refl W0))⟩
  refine wpAnyHL_take (i := 0) (oi := ?_) (v := ?_) ?_ ?_ ?_ ?_ ?_ ?_ ?_ ?_ ?_ (Or.inl ⟨?_, ?_⟩) ?_ ?_
  rotate_left 2
  focus (simp only [List.getElem?_toArray, List.getElem?_cons_succ, List.getElem?_cons_zero]; exact rfl)
  focus kernel_rfl
  focus kernel_rfl
  focus kernel_rfl
  focus kernel_rfl
  focus kernel_rfl
  focus kernel_rfl
  focus kernel_rfl
  focus (exact fun _ _ _ h => h)
  focus rfl
  focus ((intro wSw hSw; (have hSw := hSw.out); (try dsimp only at hSw); go_simp) <;> with_reducible rfl)
  focus assumption
  try simp only [Act.put, List.setIfInBounds_toArray, List.set_cons_zero, List.set_cons_succ]
  refine wpAnyHL_take (i := 1) (oi := ?_) (v := ?_) ?_ ?_ ?_ ?_ ?_ ?_ ?_ ?_ ?_ (Or.inl ⟨?_, ?_⟩) ?_ ?_
  rotate_left 2
  focus (simp only [List.getElem?_toArray, List.getElem?_cons_succ, List.getElem?_cons_zero]; exact rfl)
  focus kernel_rfl
  focus kernel_rfl
  focus kernel_rfl
  focus kernel_rfl
  focus kernel_rfl
  focus kernel_rfl
  focus kernel_rfl
  focus (exact fun _ _ _ h => h)
  focus rfl
  focus (intro wSw hSw; (have hSw := hSw.out); (refine run_load_row 27 (.tmp 5) ?_ p 0 ?_ _ _ (HRB.out.keeps hSw.1) Tryd.underlying27 rfl ZH.out) <;> rfl)
  focus assumption
  try simp only [Act.put, List.setIfInBounds_toArray, List.set_cons_zero, List.set_cons_succ]
  refine wpAnyHL_take (i := 3) (oi := ?_) (v := ?_) ?_ ?_ ?_ ?_ ?_ ?_ ?_ ?_ ?_ (Or.inl ⟨?_, ?_⟩) ?_ ?_
  rotate_left 2
  focus (simp only [List.getElem?_toArray, List.getElem?_cons_succ, List.getElem?_cons_zero]; exact rfl)
  focus kernel_rfl
  focus kernel_rfl
  focus kernel_rfl
  focus kernel_rfl
  focus kernel_rfl
  focus kernel_rfl
  focus kernel_rfl
  focus (exact fun _ _ _ h => h)
  focus rfl
  focus ((intro wSw hSw; (have hSw := hSw.out); (try dsimp only at hSw); go_simp) <;> with_reducible rfl)
  focus assumption
  try simp only [Act.put, List.setIfInBounds_toArray, List.set_cons_zero, List.set_cons_succ]
  refine wpAnyHL_take (i := 4) (oi := ?_) (v := ?_) ?_ ?_ ?_ ?_ ?_ ?_ ?_ ?_ ?_ (Or.inl ⟨?_, ?_⟩) ?_ ?_
  rotate_left 2
  focus (simp only [List.getElem?_toArray, List.getElem?_cons_succ, List.getElem?_cons_zero]; exact rfl)
  focus kernel_rfl
  focus kernel_rfl
  focus kernel_rfl
  focus kernel_rfl
  focus kernel_rfl
  focus kernel_rfl
  focus kernel_rfl
  focus (exact fun _ _ _ h => h)
  focus rfl
  focus ((intro wSw hSw; (have hSw := hSw.out); (try dsimp only at hSw); go_simp) <;> with_reducible rfl)
  focus assumption
  try simp only [Act.put, List.setIfInBounds_toArray, List.set_cons_zero, List.set_cons_succ]
  refine wpAnyHL_take (i := 5) (oi := ?_) (v := ?_) ?_ ?_ ?_ ?_ ?_ ?_ ?_ ?_ ?_ (Or.inl ⟨?_, ?_⟩) ?_ ?_
  rotate_left 2
  focus (simp only [List.getElem?_toArray, List.getElem?_cons_succ, List.getElem?_cons_zero]; exact rfl)
  focus kernel_rfl
  focus kernel_rfl
  focus kernel_rfl
  focus kernel_rfl
  focus kernel_rfl
  focus kernel_rfl
  focus kernel_rfl
  focus (exact fun _ _ _ h => h)
  focus rfl
  focus ((intro wSw hSw; (have hSw := hSw.out); (try dsimp only at hSw); go_simp) <;> with_reducible rfl)
  focus assumption
  try simp only [Act.put, List.setIfInBounds_toArray, List.set_cons_zero, List.set_cons_succ]
  refine wpAnyHL_take (i := 6) (oi := ?_) (v := ?_) ?_ ?_ ?_ ?_ ?_ ?_ ?_ ?_ ?_ (Or.inl ⟨?_, ?_⟩) ?_ ?_
  rotate_left 2
  focus (simp only [List.getElem?_toArray, List.getElem?_cons_succ, List.getElem?_cons_zero]; exact rfl)
  focus kernel_rfl
  focus kernel_rfl
  focus kernel_rfl
  focus kernel_rfl
  focus kernel_rfl
  focus kernel_rfl
  focus kernel_rfl
  focus (exact fun _ _ _ h => h)
  focus rfl
  focus ((intro wSw hSw; (have hSw := hSw.out); (try dsimp only at hSw); go_simp) <;> with_reducible rfl)
  focus assumption
  try simp only [Act.put, List.setIfInBounds_toArray, List.set_cons_zero, List.set_cons_succ]
  refine wpAnyHL_one (i := 2) (o := ?_) (by kernel_rfl) (by kernel_rfl) ?_ ?_
  rotate_left 1
  focus (simp only [List.getElem?_toArray, List.getElem?_cons_succ, List.getElem?_cons_zero]; exact rfl)
  go_wp2_with (go_at_call 84; refine (HE.out _).mono ?_; rintro e W1 ⟨v1, rfl, hO1⟩; obtain ⟨a1, c1, rfl⟩ := hO1.any; have HO1 := Lib.hid hO1; clear hO1)
  try dsimp only [StepQ]
  refine ⟨?_, fun hHeld => ?_⟩
  focus (exact Lib.hid (⟨hHeld.out.1.trans HO1.out.keeps, HBC.out _ (hHeld.out.1.trans HO1.out.keeps)⟩))
  try simp only [Act.put, List.setIfInBounds_toArray, List.set_cons_zero, List.set_cons_succ]
  refine wpAnyHL_one (i := 7) (o := ?_) (by kernel_rfl) (by kernel_rfl) ?_ ?_
  rotate_left 1
  focus (simp only [List.getElem?_toArray, List.getElem?_cons_succ, List.getElem?_cons_zero]; exact rfl)
  go_wp2_with (go_at_call 81; refine (HSZ.out _).mono ?_; rintro e W2 ⟨v2, rfl, hO2⟩; obtain ⟨a2, c2, rfl⟩ := hO2.any; have HO2 := Lib.hid hO2; clear hO2)
  try dsimp only [StepQ]
  refine ⟨?_, fun hHeld => ?_⟩
  focus (exact Lib.hid (⟨hHeld.out.1.trans HO2.out.keeps, HBC.out _ (hHeld.out.1.trans HO2.out.keeps)⟩))
  try simp only [Act.put, List.setIfInBounds_toArray, List.set_cons_zero, List.set_cons_succ]
  refine wpAnyHL_done (by kernel_rfl) ?_
  try simp only [List.drop_succ_cons, List.drop_zero]
  go_wp2_with (refine own_append rfl _ _ rfl (Own.keepsW (keeps_drew (Keeps.refl W0)) HO1.out) HO2.out.keeps rfl _ rfl SB.length SB (HO2.out.rd.src Tryd.underlying44 (int_oneCell _)) (by omega) ?_; intro v8 w8 hO8 hG8; have HO8 := Lib.hid hO8; clear hO8 hG8)
  have hO8 : Own W0 w8 v8 (HB ++ SB).length (HB ++ SB) := by rw [List.length_append, hbl]; exact HO8.out
  have hpl : (HB ++ SB).length ≤ 89 := by rw [List.length_append]; omega
  generalize hPS : HB ++ SB = PS at *
  have HV8 := Lib.hid hO8; have HPS := Lib.hid hPS
  clear hO8 hPS HO8 HO1 HO2 hHeld
  go_loopw [3, 4] (fun v c wr => ∃ i : Nat, i ≤ l.length ∧ c = .int .i64 i ∧ Hid (Own W0 wr v (PS ++ (l.take i).flatMap txB).length (PS ++ (l.take i).flatMap txB))) (fun _ c _ => (l.length - intOf c).toNat)
  case atStart => exact ⟨0, by omega, rfl, Lib.hid (HV8.out.cast (by simp) (by simp))⟩
  case round =>
    obtain ⟨i, hi, rfl, HV⟩ := hrel
    have b1 := HBC.out _ HV.out.keeps
    obtain ⟨va, vc, rfl⟩ := HV.out.any
    by_cases hlt : i < l.length
    · obtain ⟨g2, off, iv, ov, d, rfl, hg2, hdi, hrow, hrtx⟩ := (HT.out.keeps (HK.out.trans HV.out.keeps)).at hlt
      have hfd := HF.out d (List.mem_of_getElem? hdi)
      have HE2 := Lib.hid (fun W' (hk : Keeps wr W') => renc_any S T R d iv ov true hfd W' (hrtx.keeps hk))
      have hstep := take_flat txB l i d hdi
      have htb : txB d = textB (encB d true) := rfl
      have hle := enc_le d true hfd
      have hb2 := HFT.out i
      have htl := txB_le d hfd
      have HROW := Lib.hid hrow; have HSTEP := Lib.hid hstep; have HTB := Lib.hid htb
      obtain ⟨ia, ic, rfl, -⟩ := hrtx.ins.any
      obtain ⟨oa, oc, rfl, -⟩ := hrtx.outs.any
      clear hdi hrow hrtx hfd hstep htb
      have HTX := Lib.hid (fun W' (v : Value) (hr : Rd W' 1 v (encB d true).length ((encB d true).map (Value.int .u8))) => text_any v (encB d true) (by omega) W' hr)
      rw [← HTB.out] at HTX
      generalize encB d true = EB at *
      generalize txB d = TB at *
      generalize (l.take i).flatMap txB = QL at *
      have hqq : (PS ++ QL).length ≤ 12000000000400 := by rw [List.length_append]; omega
      generalize hPX : PS ++ QL = PX at *
      have HPX := Lib.hid hPX
      clear hPX HTB
      go_wp2_with (first | ((with_reducible refine gate_load 66 (.tmp 25) ?_); refine wpList_load_at rfl 66 (.tmp 25) rfl g2 (off + i * 4) rfl _ _ HROW.out Tryd.underlying66 rfl (sz_tx _ _ _ _) ?_) | (go_at_call 34; refine (HE2.out _ (Keeps.refl _)).mono ?_; rintro e W6 ⟨v6, rfl, hO6⟩; obtain ⟨a6, c6, rfl⟩ := hO6.any; have HO6 := Lib.hid hO6; clear hO6) | (go_at_call 82; refine (HTX.out _ _ HO6.out.rd).mono ?_; rintro e W7 ⟨v7, rfl, hO7⟩; obtain ⟨a7, c7, rfl⟩ := hO7.any; have HO7 := Lib.hid hO7; clear hO7) | (at_builtin; refine own_append rfl _ _ rfl HV.out (HO6.out.keeps.trans HO7.out.keeps) rfl _ rfl TB.length TB (HO7.out.rd.src Tryd.underlying44 (int_oneCell _)) (by omega) ?_; intro v9 w9 hO9 hG9; have HO9 := Lib.hid hO9; clear hO9 hG9))
      go_roundw
      case rel => exact ⟨i + 1, by omega, by go_num, Lib.hid (HO9.out.cast (by rw [HSTEP.out, ← HPX.out, List.append_assoc]) (by rw [HSTEP.out, ← HPX.out]; simp [Nat.add_assoc]))⟩
      case measure => simp [intOf]; omega
    · obtain rfl : i = l.length := by omega
      rw [List.take_length] at HV ⊢
      generalize hPX : PS ++ l.flatMap txB = PX at *
      have HPX := Lib.hid hPX
      clear hPX
      go_wp2
      go_ret
      exact ⟨_, rfl, by rw [HPS.out, HPX.out]; exact Own.keepsW HK.out HV.out⟩
end Go.Proofs.YtclhjlkgmeofcaaDoor
namespace Go.Proofs.YtclhjlkgmeofcaaDoor
set_option linter.unusedVariables false
set_option linter.unusedSimpArgs false
open Go Go.RowKit

theorem lead_at {l : List Int} {i : Nat} (h : ∀ j, j < i → l.getD j 0 = 0) (hi : i < l.length) (hx : l.getD i 0 ≠ 0) : lead l = i := by
  induction l generalizing i with
  | nil => simp at hi
  | cons a r ih =>
    unfold lead at *
    cases i with
    | zero =>
      have : a ≠ 0 := by simpa using hx
      simp [List.takeWhile_cons, this]
    | succ i =>
      have h0 : a = 0 := by simpa using h 0 (by omega)
      subst h0
      have := ih (i := i) (fun j hj => by simpa using h (j + 1) (by omega)) (by simpa using hi) (by simpa using hx)
      simp [List.takeWhile_cons, this]
theorem lead_all {l : List Int} (h : ∀ j, j < l.length → l.getD j 0 = 0) : lead l = l.length := by
  induction l with
  | nil => rfl
  | cons a r ih =>
    have h0 : a = 0 := by simpa using h 0 (by simp)
    have := ih (fun j hj => by simpa using h (j + 1) (by simpa using hj))
    unfold lead at *
    subst h0
    simp [List.takeWhile_cons, this]
/-- what is left of 32 bytes at the head of a block behind f of them -/
def restV (g f : Nat) : Value := if f < 32 then .slice (some ⟨g, f, none⟩) (32 - f : Nat) (32 - f : Nat) else .slice none 0 0
theorem restV_lt (g f : Nat) (h : f < 32) : restV g f = .slice (some ⟨g, f, none⟩) (32 - f : Nat) (32 - f : Nat) := if_pos h
theorem restV_all (g : Nat) : restV g 32 = .slice none 0 0 := rfl
set_option maxRecDepth 100000 in
set_option maxHeartbeats 1000000 in
theorem trimLeftByte_any (l : List Int) (hl : l.length = 32) (g : Nat) (w : World) (hr : Row w g 0 (l.map (Value.int .u8))) :
    Calls Tryd.prog 107 #[.slice (some ⟨g, 0, none⟩) 32 32, .int .u8 0] w fun e w' => e = .returned (restV g (lead l)) ∧ w = w' := by
  have HLA := Lib.hid (fun i h1 h2 h3 => lead_at (l := l) (i := i) h1 h2 h3)
  have HLZ := Lib.hid (lead_all (l := l))
  have HRL := Lib.hid (restV_lt g)
  have HRZ := Lib.hid (restV_all g)
  generalize restV g = RV at *
  generalize lead l = F at *
  have HR := Lib.hid hr
  clear hr
  go_enter Tryd.func107, Tryd.ntmps107
  go_wp2
  go_loopw [0] (fun s wr => wr = w ∧ ∃ i : Nat, i ≤ 32 ∧ (∀ j, j < i → l.getD j 0 = 0) ∧ ∃ o : Nat, (i < 32 → o = i) ∧ s = .slice (some ⟨g, o, none⟩) ((32 : Int) - i).toNat ((32 : Int) - i).toNat) (fun s _ => slLen s)
  case atStart => exact ⟨rfl, 0, by omega, by omega, 0, by omega, rfl⟩
  case round =>
    obtain ⟨rfl, i, hi, hz, o, ho, rfl⟩ := hrel
    have e32 : ((32 : Int) - i).toNat = 32 - i := by omega
    rw [e32]
    by_cases hlt : i < 32
    · obtain rfl := ho hlt
      have c1 := HR.out.int0 o (by omega)
      have HZ := Lib.hid hz
      clear hz
      by_cases hx : l.getD o 0 = 0
      · rw [hx] at c1
        go_wp2
        refine ⟨⟨trivial, o + 1, by omega, fun j hj => ?_, if 32 - o = 1 then o else o + 1, fun h => if_neg (by omega), ?_⟩, ?_⟩
        · by_cases e : j = o
          · rw [e]; exact hx
          · exact HZ.out j (by omega)
        · have e1 : ((32 : Int) - ((o + 1 : Nat) : Int)).toNat = 32 - o - 1 := by omega
          rw [e1]
          split <;> rfl
        · simp only [slLen]; omega
      · have hF := HLA.out o HZ.out (by omega) hx
        have hd : (l.getD o 0 == 0) = false := by simpa using hx
        subst hF
        have hrv := HRL.out F hlt
        generalize l.getD F 0 = x at *
        have HRV := Lib.hid hrv
        clear hrv
        go_wp2
        go_ret
        exact ⟨by rw [HRV.out]; rfl, rfl⟩
    · obtain rfl : i = 32 := by omega
      have hF := HLZ.out (by rw [hl]; exact hz)
      rw [hl] at hF
      subst hF
      go_wp2
      go_ret
      exact ⟨by rw [HRZ.out]; rfl, rfl⟩
set_option maxRecDepth 100000 in
set_option maxHeartbeats 1000000 in
theorem trimLeft_any (l : List Int) (hl : l.length = 32) (g : Nat) (w : World) (hr : Row w g 0 (l.map (Value.int .u8))) :
    Calls Tryd.prog 63 #[.slice (some ⟨g, 0, none⟩) 32 32, .string ⟨#[0]⟩] w fun e w' => e = .returned (restV g (lead l)) ∧ w = w' := by
  have H := Lib.hid (trimLeftByte_any l hl g w hr)
  clear hr
  generalize restV g (lead l) = RV at *
  go_enter Tryd.func63, Tryd.ntmps63
  go_wp2_with (go_at_call 107; refine H.out.mono ?_; rintro e W5 ⟨rfl, rfl⟩)
  go_ret
  exact ⟨rfl, rfl⟩
theorem w32_join (i : Nat) (x y : Int) (hx₀ : 0 ≤ x) (hx : x % 2 ^ i = 0) (hx₁ : x < 2 ^ 32) (hy₀ : 0 ≤ y) (hy : y < 2 ^ i) (hy₁ : y < 2 ^ 32) : bits .or .u32 x y = x + y :=
  bits_join .u32 32 (by decide) nm_w32_wraps i x y hx₀ hx hx₁ hy₀ hy hy₁
set_option maxRecDepth 100000 in
set_option maxHeartbeats 1000000 in
theorem bits_any (l : List Int) (hb : Bytes l) (hl : l.length = 32) (w : World) :
    Calls Tryd.prog 24 #[.agg (l.map (Value.int .u8)).toArray] w fun e w' => e = .returned (.int .u32 (bitsOf l)) ∧ Keeps w w' := by
  have hf := lead_le l
  rw [hl] at hf
  have HT := Lib.hid (trimLeft_any l hl)
  have HBV := Lib.hid (show bitsOf l = bitsOf' l (lead l) from rfl)
  have hm0 : mant l (lead l) 0 = 0 := rfl
  have hm1 : ∀ k, mant l (lead l) (k + 1) = mant l (lead l) k * 256 + l.getD (lead l + k) 0 := fun _ => rfl
  have hmr : ∀ k, k ≤ 2 → 0 ≤ mant l (lead l) k ∧ mant l (lead l) k < 65536 := by
    intro k hk
    have h0 := hb.get (lead l); have h1 := hb.get (lead l + 1)
    have : k = 0 ∨ k = 1 ∨ k = 2 := by omega
    rcases this with rfl | rfl | rfl <;> simp only [mant, Nat.add_zero] at * <;> omega
  have hg0 : ∀ j, 32 ≤ j → l.getD j 0 = 0 := fun j hj => by rw [List.getD, List.getElem?_eq_none (by omega)]; rfl
  have hgr : ∀ j, 0 ≤ l.getD j 0 ∧ l.getD j 0 < 256 := fun j => hb.get j
  have hbo : bitsOf' l (lead l) = if 8388608 ≤ mant l (lead l) 3 then (33 - (lead l : Int)) * 16777216 + mant l (lead l) 3 / 256 else (32 - (lead l : Int)) * 16777216 + mant l (lead l) 3 := rfl
  have hm3 := mant_range hb (lead l)
  have HRL := Lib.hid (fun p f h => restV_lt p f h)
  have HRZ := Lib.hid (fun p => restV_all p)
  generalize mant l (lead l) = M at *
  generalize bitsOf' l (lead l) = BO at *
  generalize lead l = F at *
  have HM0 := Lib.hid hm0; have HM1 := Lib.hid hm1; have HMR := Lib.hid hmr; have HG0 := Lib.hid hg0; have HGR := Lib.hid hgr; have HBO := Lib.hid hbo; have HM3 := Lib.hid hm3
  clear hm0 hm1 hmr hg0 hgr hbo hm3
  go_enter Tryd.func24, Tryd.ntmps24
  go_upto_region 1 with (fail)
  refine nm_wp_rows1 (fun W hk hr hs => ?_)
  obtain ⟨p, hp⟩ : ∃ p, p = w.heap.size := ⟨_, rfl⟩
  rw [← hp] at hr hs ⊢
  have HR := Lib.hid (show Row W p 0 (l.map (Value.int .u8)) from hr); have HK := Lib.hid hk
  clear hp hr hs hk
  have HTL := Lib.hid (HT.out p W HR.out)
  go_upto_region 2 with (go_at_call 63; refine HTL.out.mono ?_; rintro e W5 ⟨rfl, rfl⟩)
  by_cases hF : F < 32
  · rw [HRL.out p F hF]
    go_wp2
    go_loopw [5, 11] (fun m c wr => wr = W ∧ ∃ i : Nat, i ≤ 3 ∧ c = .int .i64 i ∧ m = .int .u32 (M i)) (fun _ c _ => (3 - intOf c).toNat)
    case atStart => exact ⟨rfl, 0, by omega, rfl, by rw [HM0.out]⟩
    case round =>
      obtain ⟨rfl, i, hi, rfl, rfl⟩ := hrel
      by_cases hlt : i < 3
      · obtain ⟨m0, m1⟩ := HMR.out i (by omega)
        have hmm := HM1.out i
        by_cases hin : F + i < 32
        · have c1 := HR.out.int0 (F + i) (by omega)
          obtain ⟨g0, g1⟩ := HGR.out (F + i)
          generalize l.getD (F + i) 0 = x at *
          generalize M i = m at *
          have hj := w32_join 8 (m * 256) x (by omega) (by omega) (by omega) g0 (by omega) (by omega)
          have hw : IntKind.u32.wrap (m * 256) = m * 256 := nm_w32_wraps _ (by omega) (by omega)
          have HMM := Lib.hid hmm
          clear hmm
          go_wp2
          exact ⟨⟨trivial, i + 1, by omega, by simp, by rw [HMM.out]⟩, by simp [intOf]; omega⟩
        · have hx := HG0.out (F + i) (by omega)
          rw [hx, Int.add_zero] at hmm
          generalize M i = m at *
          have hw : IntKind.u32.wrap (m * 256) = m * 256 := nm_w32_wraps _ (by omega) (by omega)
          have HMM := Lib.hid hmm
          clear hmm
          go_wp2
          exact ⟨⟨trivial, i + 1, by omega, by simp, by rw [HMM.out]⟩, by simp [intOf]; omega⟩
      · obtain rfl : i = 3 := by omega
        obtain ⟨m0, m1⟩ := HM3.out
        generalize M 3 = m at *
        by_cases hbig : 8388608 ≤ m
        · have hbo : BO = (33 - (F : Int)) * 16777216 + m / 256 := by rw [HBO.out, if_pos hbig]
          have hd : decide (m ≥ 8388608) = true := by simpa using hbig
          have hj := w32_join 24 ((33 - (F : Int)) * 16777216) (m / 256) (by omega) (by omega) (by omega) (by omega) (by omega) (by omega)
          have hw : IntKind.u32.wrap ((33 - (F : Int)) * 16777216) = (33 - (F : Int)) * 16777216 := nm_w32_wraps _ (by omega) (by omega)
          have HBO2 := Lib.hid hbo
          clear hbo
          go_wp2
          go_ret
          exact ⟨ret_int (by rw [show ((32 - F : Nat) : Int) + 1 = 33 - (F : Int) by omega]; exact hj.trans (HBO2.out.symm.trans HBV.out.symm)), HK.out⟩
        · have hbo : BO = (32 - (F : Int)) * 16777216 + m := by rw [HBO.out, if_neg hbig]
          have hd : decide (m ≥ 8388608) = false := by simpa using hbig
          have hj := w32_join 24 ((32 - (F : Int)) * 16777216) m (by omega) (by omega) (by omega) (by omega) (by omega) (by omega)
          have hw : IntKind.u32.wrap ((32 - (F : Int)) * 16777216) = (32 - (F : Int)) * 16777216 := nm_w32_wraps _ (by omega) (by omega)
          have HBO2 := Lib.hid hbo
          clear hbo
          go_wp2
          go_ret
          exact ⟨ret_int (by rw [show ((32 - F : Nat) : Int) = 32 - (F : Int) by omega]; exact hj.trans (HBO2.out.symm.trans HBV.out.symm)), HK.out⟩
  · obtain rfl : F = 32 := by omega
    rw [HRZ.out p]
    have hm3 : M 3 = 0 := by
      have h1 : M 1 = M 0 * 256 + l.getD (32 + 0) 0 := HM1.out 0; have h2 : M 2 = M 1 * 256 + l.getD (32 + 1) 0 := HM1.out 1; have h3 : M 3 = M 2 * 256 + l.getD (32 + 2) 0 := HM1.out 2
      have g1 := HG0.out (32 + 0) (by omega); have g2 := HG0.out (32 + 1) (by omega); have g3 := HG0.out (32 + 2) (by omega)
      rw [HM0.out] at h1
      omega
    have hbo : bitsOf l = 0 := by rw [HBV.out, HBO.out, hm3]; rfl
    go_wp2
    go_loopw [5, 11] (fun m c wr => wr = W ∧ ∃ i : Nat, i ≤ 3 ∧ c = .int .i64 i ∧ m = .int .u32 0) (fun _ c _ => (3 - intOf c).toNat)
    case atStart => exact ⟨rfl, 0, by omega, rfl, rfl⟩
    case round =>
      obtain ⟨rfl, i, hi, rfl, rfl⟩ := hrel
      by_cases hlt : i < 3
      · go_wp2
        exact ⟨⟨trivial, i + 1, by omega, by simp, rfl⟩, by simp [intOf]; omega⟩
      · obtain rfl : i = 3 := by omega
        have HBO2 := Lib.hid hbo
        clear hbo
        go_wp2
        go_ret
        exact ⟨ret_int HBO2.out.symm, HK.out⟩
end Go.Proofs.YtclhjlkgmeofcaaDoor
namespace Go.Proofs.YtclhjlkgmeofcaaDoor
set_option linter.unusedVariables false
set_option linter.unusedSimpArgs false
open Go Go.RowKit

set_option maxRecDepth 100000 in
set_option maxHeartbeats 1000000 in
theorem rlimit_any (w : World) : Calls Tryd.prog 83 #[] w fun e w' => e = .returned (.agg (limitB.map (Value.int .u8)).toArray) ∧ Keeps w w' := by
  have HZ0 : ∀ (W : World) (a : Act) (o : Oper), o.op = .build 23 #[(0, .const (.int .u8 127)), (1, .const (.int .u8 255)), (2, .const (.int .u8 255))] → (execOp a.eval o).run Tryd.prog W = .ok (.value (.agg (limitB.map (Value.int .u8)).toArray)) W := fun W a o ho => by
    unfold execOp; rw [ho]; kernel_rfl
  have hl9 := limitB_length
  have HS : (Tryd.prog.info? 23).map (·.size) = some (limitB.map (Value.int .u8)).length := by rw [List.length_map, hl9]; kernel_rfl
  generalize limitB = L at *
  have HZ := Lib.hid HZ0
  clear HZ0
  go_enter Tryd.func83, Tryd.ntmps83
  go_upto_region 1 with (fail)
  go_wp2_with (first | (refine wpList_store_row rfl 23 (.tmp 0) (.tmp 1) rfl _ 0 rfl (List.replicate 32 (Value.int .u8 0)) (L.map (Value.int .u8)) rfl (Row.new _ _ _ rfl) (by simp [hl9]) HS (int_oneCell _) ?_; intro w8 hr8 hc8; have H8 := Lib.hid hr8; have HC8 := Lib.hid hc8; clear hr8 hc8) | (refine wpList_plain rfl fun _ hK => ?_; unfold Oper.wp; rw [HZ.out _ _ _ rfl]; refine hK _ _ ?_))
  exact bodyPost_ret (v := .agg (L.map (Value.int .u8)).toArray) (results_cell_at (p := 0) (ty := 23) rfl _ _ w.heap.size 0 _ _ rfl H8.out Tryd.underlying23 rfl HS) rfl ⟨rfl, nm_keeps_chg (nm_keeps_alloc (Keeps.refl w) _) HC8.out (Nat.le_refl _)⟩
end Go.Proofs.YtclhjlkgmeofcaaDoor
