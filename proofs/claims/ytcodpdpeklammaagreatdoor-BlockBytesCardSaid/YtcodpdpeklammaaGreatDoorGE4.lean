/- Two heads compared; the reference's Same of blocks. | The reference's Same of blocks. | bytes.TrimLeft of noughts, block.Bits: a number as bits. | The new coins of a height, in the code and in the reference. | strongboxlaw10.awake: it says yes. | tx.Same. -/
import Derived.Test.YtcodpdpeklammaaGreatDoorGD9
import Derived.Test.YtcodpdpeklammaaGreatDoorGE3
import Derived.Test.YtcodpdpeklammaaGreatDoorGA4
import Derived.Test.YtcodpdpeklammaaGreatDoorGC6
import Derived.Test.YtcodpdpeklammaaGreatDoorGA2
namespace Go.Proofs.YtcodpdpeklammaaGreatDoor
set_option linter.unusedVariables false
set_option linter.unusedSimpArgs false
open Go Go.RowKit

instance : DecidableEq HdD := fun a b => decidable_of_iff (a.ver = b.ver ∧ a.prev = b.prev ∧ a.merkle = b.merkle ∧ a.time = b.time ∧ a.bits = b.bits ∧ a.nonce = b.nonce) (by cases a; cases b; simp)
def hdLits (h : HdD) : List Lit := Lit.int .i32 h.ver :: (h.prev.map (Lit.int .u8) ++ (h.merkle.map (Lit.int .u8) ++ [.int .u32 h.time, .int .u32 h.bits, .int .u32 h.nonce]))
theorem wf_i32 {x : Int} (h : I32 x) : (Lit.int .i32 x).wf = true := by
  obtain ⟨h0, h1⟩ := h
  unfold Lit.wf
  rw [Bool.and_eq_true, decide_eq_true_eq, decide_eq_true_eq]
  exact ⟨show (-2147483648 : Int) ≤ x by omega, show x ≤ (2147483647 : Int) by omega⟩
theorem drop_take1 {l : List Value} {i : Nat} {x : Value} (h : l[i]? = some x) : (l.drop i).take 1 = [x] := by
  obtain ⟨hi, rfl⟩ := List.getElem?_eq_some_iff.1 h
  rw [List.drop_eq_getElem_cons hi]; rfl
theorem lits_head (D : Nat) (h : HdD) (ok : HdOk h) : Tryz.prog.keyLits (D + 3) 26 (hdCells h) = some (hdLits h) := by
  have e1 : Tryz.prog.cellsOf 26 = 68 := by kernel_rfl
  have e2 : Tryz.prog.cellsOf 23 = 32 := by kernel_rfl
  have e3 : Tryz.prog.cellsOf 24 = 1 := by kernel_rfl
  have e4 : Tryz.prog.cellsOf 21 = 1 := by kernel_rfl
  obtain ⟨a1, a2, a3⟩ := headCells_at h.ver h.prev h.merkle h.time h.bits h.nonce ok.prevLen ok.merkleLen
  have d0 : ((hdCells h).drop 0).take 1 = [.int .i32 h.ver] := rfl
  have d1 : ((hdCells h).drop 1).take 32 = h.prev.map (Value.int .u8) := headCells_prev _ _ _ _ _ _ ok.prevLen
  have d2 : ((hdCells h).drop 33).take 32 = h.merkle.map (Value.int .u8) := headCells_merkle _ _ _ _ _ _ ok.prevLen ok.merkleLen
  have d3 : ((hdCells h).drop 65).take 1 = [.int .u32 h.time] := drop_take1 a1
  have d4 : ((hdCells h).drop 66).take 1 = [.int .u32 h.bits] := drop_take1 a2
  have d5 : ((hdCells h).drop 67).take 1 = [.int .u32 h.nonce] := drop_take1 a3
  unfold Program.keyLits
  rw [Tryz.underlying26]
  simp only [e1]
  rw [if_pos ⟨hdCells_len ok.prevLen ok.merkleLen, by kernel_rfl⟩]
  simp only [List.mapM_cons, List.mapM_nil, e2, e3, e4, d0, d1, d2, d3, d4, d5, lits_hash D h.prev ok.prevLen ok.prev, lits_hash D h.merkle ok.merkleLen ok.merkle, lits_int (D + 1) _ _ _ Tryz.underlying24 (wf_u32 ok.time), lits_int (D + 1) _ _ _ Tryz.underlying24 (wf_u32 ok.bits), lits_int (D + 1) _ _ _ Tryz.underlying24 (wf_u32 ok.nonce), lits_int (D + 1) _ _ _ Tryz.underlying21 (wf_i32 ok.ver)]
  simp [hdLits]
theorem lits_u8_inj {h h' : List Int} (e : h.map (Lit.int .u8) = h'.map (Lit.int .u8)) : h = h' := by
  have := congrArg (List.map (fun l => match l with | Lit.int _ n => n | _ => 0)) e
  simpa [List.map_map, Function.comp_def] using this
theorem hdLits_inj {h h' : HdD} (e : hdLits h = hdLits h') (ok : HdOk h) (ok' : HdOk h') : h = h' := by
  unfold hdLits at e
  injection e with e0 e
  obtain ⟨e1, e⟩ := List.append_inj e (by simp [ok.prevLen, ok'.prevLen])
  obtain ⟨e2, e⟩ := List.append_inj e (by simp [ok.merkleLen, ok'.merkleLen])
  have e1 := lits_u8_inj e1
  have e2 := lits_u8_inj e2
  simp only [List.cons.injEq, Lit.int.injEq, true_and, and_true] at e e0
  cases h; cases h'
  simp only [HdD.mk.injEq]
  exact ⟨e0, e1, e2, e.1, e.2.1, e.2.2⟩
theorem hd_formed (h : HdD) (ok : HdOk h) : (Value.agg (hdCells h).toArray).formed Tryz.prog 26 = true := by
  have e1 : Tryz.prog.cellsOf 26 = 68 := by kernel_rfl
  unfold Value.formed
  rw [Tryz.underlying26]
  simp [e1, hdCells_len ok.prevLen ok.merkleLen]
theorem hd_equal (W : World) (h h' : HdD) (ok : HdOk h) (ok' : HdOk h') :
    (Op.equalIn 10000 26 (.agg (hdCells h).toArray) (.agg (hdCells h').toArray)).run Tryz.prog W = .ok (decide (h = h')) W := by
  have hd := run_equalIn_deep (P := Tryz.prog) 9996 4 26 (by kernel_rfl)
  obtain ⟨r, hr, hiff⟩ := hd W 3 3 _ _ _ _ (hd_formed h ok) (hd_formed h' ok') (lits_head 0 h ok) (lits_head 0 h' ok')
  suffices key : r = decide (h = h') by rw [hr, key]
  clear hr hd
  by_cases he : h = h'
  · rw [decide_eq_true he]; exact hiff.2 (by rw [he])
  · rw [decide_eq_false he]
    cases r
    · rfl
    · exact absurd (hdLits_inj (hiff.1 rfl) ok ok') he
theorem blk_hd {w : World} {p : Nat} {h : HdD} {tv : Value} (hr : Row w p 0 (blkCells h tv)) (h1 : h.prev.length = 32) (h2 : h.merkle.length = 32) : Row w p 0 (hdCells h) := by
  have := hr.take 68
  unfold blkCells at this
  rwa [List.take_left' (hdCells_len h1 h2)] at this
set_option maxRecDepth 100000 in
set_option maxHeartbeats 8000000 in
theorem rbsame_any {S T R S' T' R' : Nat → Prop} (h h' : HdD) (ok : HdOk h) (ok' : HdOk h') (tv tv' : Value) (l l' : List TxD) (w : World) (ht : RTxs S T R w tv l) (ht' : RTxs S' T' R' w tv' l') :
    Calls Tryz.prog 16 #[.agg (blkCells h tv).toArray, .agg (blkCells h' tv').toArray] w fun r w' => r = .returned (.bool (decide (h = h' ∧ l = l'))) ∧ Keeps w w' := by
  obtain ⟨a, c, rfl, hc, hcm⟩ := ht.any
  obtain ⟨a', c', rfl, hc', hcm'⟩ := ht'.any
  have hsm := ht.small
  have hsm' := ht'.small
  have HT := Lib.hid ht; have HT' := Lib.hid ht'
  clear ht ht'
  have HE := Lib.hid (fun W => hd_equal W h h' ok ok')
  have ZH := Lib.hid (sz_hd ok.prevLen ok.merkleLen); have ZH' := Lib.hid (sz_hd ok'.prevLen ok'.merkleLen)
  have HC := Lib.hid (fun (W : World) (p : Nat) (hr : Row W p 0 (blkCells h (.slice a l.length c))) => (blk_at68 hr ok.prevLen ok.merkleLen).1)
  have HC' := Lib.hid (fun (W : World) (p : Nat) (hr : Row W p 0 (blkCells h' (.slice a' l'.length c'))) => (blk_at68 hr ok'.prevLen ok'.merkleLen).1)
  have HHD := Lib.hid (fun (W : World) (p : Nat) (hr : Row W p 0 (blkCells h (.slice a l.length c))) => blk_hd hr ok.prevLen ok.merkleLen)
  have HHD' := Lib.hid (fun (W : World) (p : Nat) (hr : Row W p 0 (blkCells h' (.slice a' l'.length c'))) => blk_hd hr ok'.prevLen ok'.merkleLen)
  obtain ⟨RR, hRR⟩ : ∃ RR : Bool, RR = decide (h = h' ∧ l = l') := ⟨_, rfl⟩
  obtain ⟨E, hE⟩ : ∃ E : Bool, E = decide (h = h') := ⟨_, rfl⟩
  rw [← hE] at HE
  rw [← hRR]
  have hcase : (RR = false ∧ (E = false ∨ (E = true ∧ ¬ l.length = l'.length))) ∨ (E = true ∧ l.length = l'.length ∧ (RR = true ↔ l = l')) := by
    by_cases he : h = h'
    · rw [decide_eq_true he] at hE
      by_cases hl : l.length = l'.length
      · exact .inr ⟨hE, hl, by rw [hRR, decide_eq_true_iff]; exact ⟨fun x => x.2, fun x => ⟨he, x⟩⟩⟩
      · exact .inl ⟨by rw [hRR]; exact decide_eq_false (fun x => hl (by rw [x.2])), .inr ⟨hE, hl⟩⟩
    · exact .inl ⟨by rw [hRR]; exact decide_eq_false (fun x => he x.1), .inl (by rw [hE]; exact decide_eq_false he)⟩
  clear hRR hE
  generalize blkCells h (.slice a l.length c) = B1 at *
  generalize blkCells h' (.slice a' l'.length c') = B2 at *
  generalize hdCells h = A1 at *
  generalize hdCells h' = A2 at *
  rcases hcase with ⟨rfl, hcase⟩ | ⟨rfl, hlen, hiff⟩
  · rcases hcase with rfl | ⟨rfl, hlen⟩
    all_goals
      try (have z1 : ((l.length : Int) != l'.length) = true := by rw [bne_iff_ne]; omega)
      try clear hlen
      go_enter Tryz.func16, Tryz.ntmps16
      go_upto_region 1 with (fail)
      refine wp_rows2 (fun W0 hk hr1 hr2 hs => ?_)
      have hr1 : Row W0 w.heap.size 0 B1 := by simpa using hr1
      have hr2 : Row W0 (w.heap.size + 1) 0 B2 := by simpa using hr2
      have b0 := HC.out _ _ hr1
      have b1 := HC'.out _ _ hr2
      have HH1 := Lib.hid (HHD.out _ _ hr1); have HH2 := Lib.hid (HHD'.out _ _ hr2)
      have HK := Lib.hid hk
      clear hk hr1 hr2 hs
      generalize w.heap.size = p at *
      go_wp2_with (first | ((with_reducible refine gate_load 26 (.tmp 6) ?_); refine wpList_load_at rfl 26 (.tmp 6) rfl p 0 rfl _ _ HH1.out Tryz.underlying26 rfl ZH.out ?_) | ((with_reducible refine gate_load 26 (.tmp 8) ?_); refine wpList_load_at rfl 26 (.tmp 8) rfl (p + 1) 0 rfl _ _ HH2.out Tryz.underlying26 rfl ZH'.out ?_) | ((with_reducible refine gate_bin .neq 26 26 (.tmp 7) (.tmp 9) ?_); refine wpList_neq_at (by kernel_rfl) 26 26 (.tmp 7) (.tmp 9) rfl _ _ rfl rfl _ HE.out (by kernel_rfl) ?_))
      go_ret
      exact ⟨rfl, HK.out⟩
  · have z1 : ((l.length : Int) != l'.length) = false := by rw [bne_eq_false_iff_eq]; omega
    have HIFF := Lib.hid hiff; have HLEN := Lib.hid hlen
    clear hiff hlen
    go_enter Tryz.func16, Tryz.ntmps16
    go_upto_region 1 with (fail)
    refine wp_rows2 (fun W0 hk hr1 hr2 hs => ?_)
    have hr1 : Row W0 w.heap.size 0 B1 := by simpa using hr1
    have hr2 : Row W0 (w.heap.size + 1) 0 B2 := by simpa using hr2
    have b0 := HC.out _ _ hr1
    have b1 := HC'.out _ _ hr2
    have HH1 := Lib.hid (HHD.out _ _ hr1); have HH2 := Lib.hid (HHD'.out _ _ hr2)
    have HK := Lib.hid hk; have HR1 := Lib.hid hr1; have HR2 := Lib.hid hr2
    clear hk hr1 hr2 hs HHD HHD'
    generalize w.heap.size = p at *
    go_upto_region 3 with (first | ((with_reducible refine gate_load 26 (.tmp 6) ?_); refine wpList_load_at rfl 26 (.tmp 6) rfl p 0 rfl _ _ HH1.out Tryz.underlying26 rfl ZH.out ?_) | ((with_reducible refine gate_load 26 (.tmp 8) ?_); refine wpList_load_at rfl 26 (.tmp 8) rfl (p + 1) 0 rfl _ _ HH2.out Tryz.underlying26 rfl ZH'.out ?_) | ((with_reducible refine gate_bin .neq 26 26 (.tmp 7) (.tmp 9) ?_); refine wpList_neq_at (by kernel_rfl) 26 26 (.tmp 7) (.tmp 9) rfl _ _ rfl rfl _ HE.out (by kernel_rfl) ?_))
    clear z1 HH1 HH2 HE ZH ZH'
    try (rename (((l.length : Int) != (l'.length : Int)) = false) => hbad; clear hbad)
    go_wp2
    go_loopw [5] (fun c wr => ∃ i : Nat, i ≤ l.length ∧ c = .int .i64 i ∧ Hid (Keeps W0 wr) ∧ Hid (∀ j, j < i → l[j]? = l'[j]?)) (fun c _ => (l.length - intOf c).toNat)
    case atStart => exact ⟨0, by omega, rfl, Lib.hid (Keeps.refl _), Lib.hid (fun j hj => by omega)⟩
    case round =>
      obtain ⟨i, hi, rfl, HKR, HEQ⟩ := hrel
      clear b0 b1
      have HCC := Lib.hid (fun (W : World) (hk : Keeps wr W) => And.intro (HC.out _ _ (HR1.out.keeps (HKR.out.trans hk))) (HC'.out _ _ (HR2.out.keeps (HKR.out.trans hk))))
      obtain ⟨b0, b1⟩ := HCC.out _ (Keeps.refl _)
      by_cases hlt : i < l.length
      · obtain ⟨g, off, iv, ov, d, rfl, hg, hdi, hrow, hrtx⟩ := (HT.out.keeps (HK.out.trans HKR.out)).at hlt
        have hlt' : i < l'.length := by rw [← HLEN.out]; exact hlt
        obtain ⟨g', off', iv', ov', e, rfl, hg', hei, hrow', hrtx'⟩ := (HT'.out.keeps (HK.out.trans HKR.out)).at hlt'
        have HCO := Lib.hid (fun W (hk : Keeps wr W) => rsame_any d e iv ov iv' ov' W (hrtx.keeps hk) (hrtx'.keeps hk))
        have HROW := Lib.hid hrow; have HROW' := Lib.hid hrow'; have HDI := Lib.hid hdi; have HEI := Lib.hid hei
        obtain ⟨ia, ic, rfl, -⟩ := hrtx.ins.any
        obtain ⟨oa, oc, rfl, -⟩ := hrtx.outs.any
        obtain ⟨ia', ic', rfl, -⟩ := hrtx'.ins.any
        obtain ⟨oa', oc', rfl, -⟩ := hrtx'.outs.any
        clear hdi hei hrow hrow' hrtx hrtx'
        obtain ⟨B, hB⟩ : ∃ B : Bool, B = decide (d = e) := ⟨_, rfl⟩
        rw [← hB] at HCO
        have HB := Lib.hid hB
        clear hB
        go_upto_region 6 with (fail)
        clear b0 b1
        refine wp_region_head (S := fun W => Hid ((fun W => Keeps wr W ∧ W.cell? ⟨p, 68, none⟩ = some (.slice (some ⟨g, off, none⟩) l.length c) ∧ W.cell? ⟨p + 1, 68, none⟩ = some (.slice (some ⟨g', off', none⟩) l'.length c')) W)) 11 (by kernel_rfl) (by kernel_rfl) ?_ (fun hHeld => ?_)
        focus exact Lib.hid ⟨keeps_drew (Keeps.refl wr), HCC.out _ (keeps_drew (Keeps.refl wr))⟩
        refine wpAnyHL_take (i := 0) (oi := ?_) (v := ?_) ?_ ?_ ?_ ?_ ?_ ?_ ?_ ?_ ?_ (Or.inl ⟨?_, ?_⟩) ?_ ?_
        rotate_left 2
        focus (simp only [List.getElem?_toArray, List.getElem?_cons_succ, List.getElem?_cons_zero]; exact rfl)
        iterate 7 focus kernel_rfl
        focus (exact fun _ _ _ h => h)
        focus rfl
        focus ((intro wSw hSw; (have hSw := hSw.out); (try dsimp only at hSw); go_simp) <;> with_reducible rfl)
        focus assumption
        try simp only [Act.put, List.setIfInBounds_toArray, List.set_cons_zero, List.set_cons_succ]
        refine wpAnyHL_take (i := 1) (oi := ?_) (v := ?_) ?_ ?_ ?_ ?_ ?_ ?_ ?_ ?_ ?_ (Or.inl ⟨?_, ?_⟩) ?_ ?_
        rotate_left 2
        focus (simp only [List.getElem?_toArray, List.getElem?_cons_succ, List.getElem?_cons_zero]; exact rfl)
        iterate 7 focus kernel_rfl
        focus (exact fun _ _ _ h => h)
        focus rfl
        focus ((intro wSw hSw; (have hSw := hSw.out); (try dsimp only at hSw); go_simp) <;> with_reducible rfl)
        focus assumption
        try simp only [Act.put, List.setIfInBounds_toArray, List.set_cons_zero, List.set_cons_succ]
        refine wpAnyHL_take (i := 2) (oi := ?_) (v := ?_) ?_ ?_ ?_ ?_ ?_ ?_ ?_ ?_ ?_ (Or.inl ⟨?_, ?_⟩) ?_ ?_
        rotate_left 2
        focus (simp only [List.getElem?_toArray, List.getElem?_cons_succ, List.getElem?_cons_zero]; exact rfl)
        iterate 7 focus kernel_rfl
        focus (exact fun _ _ _ h => h)
        focus rfl
        focus ((intro wSw hSw; (have hSw := hSw.out); (try dsimp only at hSw); go_simp) <;> with_reducible rfl)
        focus assumption
        try simp only [Act.put, List.setIfInBounds_toArray, List.set_cons_zero, List.set_cons_succ]
        refine wpAnyHL_take (i := 3) (oi := ?_) (v := ?_) ?_ ?_ ?_ ?_ ?_ ?_ ?_ ?_ ?_ (Or.inl ⟨?_, ?_⟩) ?_ ?_
        rotate_left 2
        focus (simp only [List.getElem?_toArray, List.getElem?_cons_succ, List.getElem?_cons_zero]; exact rfl)
        iterate 7 focus kernel_rfl
        focus (exact fun _ _ _ h => h)
        focus rfl
        focus ((intro wSw hSw; (have hSw := hSw.out); (try dsimp only at hSw); go_simp) <;> with_reducible rfl)
        focus assumption
        try simp only [Act.put, List.setIfInBounds_toArray, List.set_cons_zero, List.set_cons_succ]
        refine wpAnyHL_take (i := 4) (oi := ?_) (v := ?_) ?_ ?_ ?_ ?_ ?_ ?_ ?_ ?_ ?_ (Or.inl ⟨?_, ?_⟩) ?_ ?_
        rotate_left 2
        focus (simp only [List.getElem?_toArray, List.getElem?_cons_succ, List.getElem?_cons_zero]; exact rfl)
        iterate 7 focus kernel_rfl
        focus (exact fun _ _ _ h => h)
        focus rfl
        focus (intro wSw hSw; (have hSw := hSw.out); (refine run_load_row 46 (.tmp 30) ?_ g (off + i * 4) ?_ _ _ (HROW.out.keeps hSw.1) Tryz.underlying46 rfl (sz_tx _ _ _ _)) <;> rfl)
        focus assumption
        try simp only [Act.put, List.setIfInBounds_toArray, List.set_cons_zero, List.set_cons_succ]
        refine wpAnyHL_take (i := 5) (oi := ?_) (v := ?_) ?_ ?_ ?_ ?_ ?_ ?_ ?_ ?_ ?_ (Or.inl ⟨?_, ?_⟩) ?_ ?_
        rotate_left 2
        focus (simp only [List.getElem?_toArray, List.getElem?_cons_succ, List.getElem?_cons_zero]; exact rfl)
        iterate 7 focus kernel_rfl
        focus (exact fun _ _ _ h => h)
        focus rfl
        focus ((intro wSw hSw; (have hSw := hSw.out); (try dsimp only at hSw); go_simp) <;> with_reducible rfl)
        focus assumption
        try simp only [Act.put, List.setIfInBounds_toArray, List.set_cons_zero, List.set_cons_succ]
        refine wpAnyHL_take (i := 6) (oi := ?_) (v := ?_) ?_ ?_ ?_ ?_ ?_ ?_ ?_ ?_ ?_ (Or.inl ⟨?_, ?_⟩) ?_ ?_
        rotate_left 2
        focus (simp only [List.getElem?_toArray, List.getElem?_cons_succ, List.getElem?_cons_zero]; exact rfl)
        iterate 7 focus kernel_rfl
        focus (exact fun _ _ _ h => h)
        focus rfl
        focus ((intro wSw hSw; (have hSw := hSw.out); (try dsimp only at hSw); go_simp) <;> with_reducible rfl)
        focus assumption
        try simp only [Act.put, List.setIfInBounds_toArray, List.set_cons_zero, List.set_cons_succ]
        refine wpAnyHL_take (i := 7) (oi := ?_) (v := ?_) ?_ ?_ ?_ ?_ ?_ ?_ ?_ ?_ ?_ (Or.inl ⟨?_, ?_⟩) ?_ ?_
        rotate_left 2
        focus (simp only [List.getElem?_toArray, List.getElem?_cons_succ, List.getElem?_cons_zero]; exact rfl)
        iterate 7 focus kernel_rfl
        focus (exact fun _ _ _ h => h)
        focus rfl
        focus ((intro wSw hSw; (have hSw := hSw.out); (try dsimp only at hSw); go_simp) <;> with_reducible rfl)
        focus assumption
        try simp only [Act.put, List.setIfInBounds_toArray, List.set_cons_zero, List.set_cons_succ]
        refine wpAnyHL_take (i := 8) (oi := ?_) (v := ?_) ?_ ?_ ?_ ?_ ?_ ?_ ?_ ?_ ?_ (Or.inl ⟨?_, ?_⟩) ?_ ?_
        rotate_left 2
        focus (simp only [List.getElem?_toArray, List.getElem?_cons_succ, List.getElem?_cons_zero]; exact rfl)
        iterate 7 focus kernel_rfl
        focus (exact fun _ _ _ h => h)
        focus rfl
        focus ((intro wSw hSw; (have hSw := hSw.out); (try dsimp only at hSw); go_simp) <;> with_reducible rfl)
        focus assumption
        try simp only [Act.put, List.setIfInBounds_toArray, List.set_cons_zero, List.set_cons_succ]
        refine wpAnyHL_take (i := 9) (oi := ?_) (v := ?_) ?_ ?_ ?_ ?_ ?_ ?_ ?_ ?_ ?_ (Or.inl ⟨?_, ?_⟩) ?_ ?_
        rotate_left 2
        focus (simp only [List.getElem?_toArray, List.getElem?_cons_succ, List.getElem?_cons_zero]; exact rfl)
        iterate 7 focus kernel_rfl
        focus (exact fun _ _ _ h => h)
        focus rfl
        focus (intro wSw hSw; (have hSw := hSw.out); (refine run_load_row 46 (.tmp 35) ?_ g' (off' + i * 4) ?_ _ _ (HROW'.out.keeps hSw.1) Tryz.underlying46 rfl (sz_tx _ _ _ _)) <;> rfl)
        focus assumption
        try simp only [Act.put, List.setIfInBounds_toArray, List.set_cons_zero, List.set_cons_succ]
        refine wpAnyHL_one (i := 10) (o := ?_) (by kernel_rfl) (by kernel_rfl) ?_ ?_
        rotate_left 1
        focus (simp only [List.getElem?_toArray, List.getElem?_cons_succ, List.getElem?_cons_zero]; exact rfl)
        go_wp2_with (go_at_call 44; refine (HCO.out _ hHeld.out.1).mono ?_; rintro e W7 ⟨rfl, hk7⟩; have HK7 := Lib.hid hk7; clear hk7)
        try dsimp only [StepQ]
        refine ⟨?_, fun hHeld => ?_⟩
        focus (exact Lib.hid (⟨hHeld.out.1.trans HK7.out, HCC.out _ (hHeld.out.1.trans HK7.out)⟩))
        try simp only [Act.put, List.setIfInBounds_toArray, List.set_cons_zero, List.set_cons_succ]
        refine wpAnyHL_done (by kernel_rfl) ?_
        try simp only [List.drop_succ_cons, List.drop_zero]
        have HKK := Lib.hid (HKR.out.trans hHeld.out.1)
        clear hHeld HCO HCC HK7
        cases B
        · have hne : RR = false := by
            cases hr : RR with
            | false => rfl
            | true =>
              have h1 := HIFF.out.1 hr
              have h2 := HDI.out
              rw [h1, HEI.out] at h2
              have h3 : d = e := (Option.some.inj h2).symm
              have h4 := HB.out
              rw [decide_eq_true h3] at h4
              cases h4
          subst hne
          go_wp2
          go_ret
          exact ⟨rfl, HK.out.trans HKK.out⟩
        · have hde : d = e := of_decide_eq_true HB.out.symm
          have HDE := Lib.hid hde
          clear hde
          go_wp2
          go_roundw
          case rel =>
            refine ⟨i + 1, by omega, by go_num, HKK, Lib.hid fun j hj => ?_⟩
            by_cases hji : j = i
            · subst hji; rw [HDI.out, HEI.out, HDE.out]
            · exact HEQ.out j (by omega)
          case measure => simp [intOf]; omega
      · obtain rfl : i = l.length := by omega
        have hall : RR = true := HIFF.out.2 (list_eq_upto HLEN.out HEQ.out)
        subst hall
        go_wp2
        go_ret
        exact ⟨rfl, HK.out.trans HKR.out⟩
theorem lead_at {l : List Int} {i : Nat} (h : ∀ j, j < i → l.getD j 0 = 0) (hi : i < l.length) (hx : l.getD i 0 ≠ 0) : lead l = i := by
  induction l generalizing i with
  | nil => simp at hi
  | cons a r ih =>
    unfold lead at *
    cases i with
    | zero =>
      have : a ≠ 0 := by simpa using hx
      simp [List.takeWhile_cons, this]
    | succ i =>
      have h0 : a = 0 := by simpa using h 0 (by omega)
      subst h0
      have := ih (i := i) (fun j hj => by simpa using h (j + 1) (by omega)) (by simpa using hi) (by simpa using hx)
      simp [List.takeWhile_cons, this]
theorem lead_all {l : List Int} (h : ∀ j, j < l.length → l.getD j 0 = 0) : lead l = l.length := by
  induction l with
  | nil => rfl
  | cons a r ih =>
    have h0 : a = 0 := by simpa using h 0 (by simp)
    have := ih (fun j hj => by simpa using h (j + 1) (by simpa using hj))
    unfold lead at *
    subst h0
    simp [List.takeWhile_cons, this]
/-- what is left of 32 bytes at the head of a block behind f of them -/
def restV (g f : Nat) : Value := if f < 32 then .slice (some ⟨g, f, none⟩) (32 - f : Nat) (32 - f : Nat) else .slice none 0 0
theorem restV_lt (g f : Nat) (h : f < 32) : restV g f = .slice (some ⟨g, f, none⟩) (32 - f : Nat) (32 - f : Nat) := if_pos h
theorem restV_all (g : Nat) : restV g 32 = .slice none 0 0 := rfl
set_option maxRecDepth 100000 in
set_option maxHeartbeats 1000000 in
theorem trimLeftByte_any (l : List Int) (hl : l.length = 32) (g : Nat) (w : World) (hr : Row w g 0 (l.map (Value.int .u8))) :
    Calls Tryz.prog 77 #[.slice (some ⟨g, 0, none⟩) 32 32, .int .u8 0] w fun e w' => e = .returned (restV g (lead l)) ∧ w = w' := by
  have HLA := Lib.hid (fun i h1 h2 h3 => lead_at (l := l) (i := i) h1 h2 h3)
  have HLZ := Lib.hid (lead_all (l := l))
  have HRL := Lib.hid (restV_lt g)
  have HRZ := Lib.hid (restV_all g)
  generalize restV g = RV at *
  generalize lead l = F at *
  have HR := Lib.hid hr
  clear hr
  go_enter Tryz.func77, Tryz.ntmps77
  go_wp2
  go_loopw [0] (fun s wr => wr = w ∧ ∃ i : Nat, i ≤ 32 ∧ (∀ j, j < i → l.getD j 0 = 0) ∧ ∃ o : Nat, (i < 32 → o = i) ∧ s = .slice (some ⟨g, o, none⟩) ((32 : Int) - i).toNat ((32 : Int) - i).toNat) (fun s _ => slLen s)
  case atStart => exact ⟨rfl, 0, by omega, by omega, 0, by omega, rfl⟩
  case round =>
    obtain ⟨rfl, i, hi, hz, o, ho, rfl⟩ := hrel
    have e32 : ((32 : Int) - i).toNat = 32 - i := by omega
    rw [e32]
    by_cases hlt : i < 32
    · obtain rfl := ho hlt
      have c1 := HR.out.int0 o (by omega)
      have HZ := Lib.hid hz
      clear hz
      by_cases hx : l.getD o 0 = 0
      · rw [hx] at c1
        go_wp2
        refine ⟨⟨trivial, o + 1, by omega, fun j hj => ?_, if 32 - o = 1 then o else o + 1, fun h => if_neg (by omega), ?_⟩, ?_⟩
        · by_cases e : j = o
          · rw [e]; exact hx
          · exact HZ.out j (by omega)
        · have e1 : ((32 : Int) - ((o + 1 : Nat) : Int)).toNat = 32 - o - 1 := by omega
          rw [e1]
          split <;> rfl
        · simp only [slLen]; omega
      · have hF := HLA.out o HZ.out (by omega) hx
        have hd : (l.getD o 0 == 0) = false := by simpa using hx
        subst hF
        have hrv := HRL.out F hlt
        generalize l.getD F 0 = x at *
        have HRV := Lib.hid hrv
        clear hrv
        go_wp2
        go_ret
        exact ⟨by rw [HRV.out]; rfl, rfl⟩
    · obtain rfl : i = 32 := by omega
      have hF := HLZ.out (by rw [hl]; exact hz)
      rw [hl] at hF
      subst hF
      go_wp2
      go_ret
      exact ⟨by rw [HRZ.out]; rfl, rfl⟩
set_option maxRecDepth 100000 in
set_option maxHeartbeats 1000000 in
theorem trimLeft_any (l : List Int) (hl : l.length = 32) (g : Nat) (w : World) (hr : Row w g 0 (l.map (Value.int .u8))) :
    Calls Tryz.prog 48 #[.slice (some ⟨g, 0, none⟩) 32 32, .string ⟨#[0]⟩] w fun e w' => e = .returned (restV g (lead l)) ∧ w = w' := by
  have H := Lib.hid (trimLeftByte_any l hl g w hr)
  clear hr
  generalize restV g (lead l) = RV at *
  go_enter Tryz.func48, Tryz.ntmps48
  go_wp2_with (go_at_call 77; refine H.out.mono ?_; rintro e W5 ⟨rfl, rfl⟩)
  go_ret
  exact ⟨rfl, rfl⟩
theorem w32_join (i : Nat) (x y : Int) (hx₀ : 0 ≤ x) (hx : x % 2 ^ i = 0) (hx₁ : x < 2 ^ 32) (hy₀ : 0 ≤ y) (hy : y < 2 ^ i) (hy₁ : y < 2 ^ 32) : bits .or .u32 x y = x + y :=
  bits_join .u32 32 (by decide) nm_w32_wraps i x y hx₀ hx hx₁ hy₀ hy hy₁
set_option maxRecDepth 100000 in
set_option maxHeartbeats 1000000 in
theorem bits_any (l : List Int) (hb : Bytes l) (hl : l.length = 32) (w : World) :
    Calls Tryz.prog 18 #[.agg (l.map (Value.int .u8)).toArray] w fun e w' => e = .returned (.int .u32 (bitsOf l)) ∧ Keeps w w' := by
  have hf := lead_le l
  rw [hl] at hf
  have HT := Lib.hid (trimLeft_any l hl)
  have HBV := Lib.hid (show bitsOf l = bitsOf' l (lead l) from rfl)
  have hm0 : mant l (lead l) 0 = 0 := rfl
  have hm1 : ∀ k, mant l (lead l) (k + 1) = mant l (lead l) k * 256 + l.getD (lead l + k) 0 := fun _ => rfl
  have hmr : ∀ k, k ≤ 2 → 0 ≤ mant l (lead l) k ∧ mant l (lead l) k < 65536 := by
    intro k hk
    have h0 := hb.get (lead l); have h1 := hb.get (lead l + 1)
    have : k = 0 ∨ k = 1 ∨ k = 2 := by omega
    rcases this with rfl | rfl | rfl <;> simp only [mant, Nat.add_zero] at * <;> omega
  have hg0 : ∀ j, 32 ≤ j → l.getD j 0 = 0 := fun j hj => by rw [List.getD, List.getElem?_eq_none (by omega)]; rfl
  have hgr : ∀ j, 0 ≤ l.getD j 0 ∧ l.getD j 0 < 256 := fun j => hb.get j
  have hbo : bitsOf' l (lead l) = if 8388608 ≤ mant l (lead l) 3 then (33 - (lead l : Int)) * 16777216 + mant l (lead l) 3 / 256 else (32 - (lead l : Int)) * 16777216 + mant l (lead l) 3 := rfl
  have hm3 := mant_range hb (lead l)
  have HRL := Lib.hid (fun p f h => restV_lt p f h)
  have HRZ := Lib.hid (fun p => restV_all p)
  generalize mant l (lead l) = M at *
  generalize bitsOf' l (lead l) = BO at *
  generalize lead l = F at *
  have HM0 := Lib.hid hm0; have HM1 := Lib.hid hm1; have HMR := Lib.hid hmr; have HG0 := Lib.hid hg0; have HGR := Lib.hid hgr; have HBO := Lib.hid hbo; have HM3 := Lib.hid hm3
  clear hm0 hm1 hmr hg0 hgr hbo hm3
  go_enter Tryz.func18, Tryz.ntmps18
  go_upto_region 1 with (fail)
  refine nm_wp_rows1 (fun W hk hr hs => ?_)
  obtain ⟨p, hp⟩ : ∃ p, p = w.heap.size := ⟨_, rfl⟩
  rw [← hp] at hr hs ⊢
  have HR := Lib.hid (show Row W p 0 (l.map (Value.int .u8)) from hr); have HK := Lib.hid hk
  clear hp hr hs hk
  have HTL := Lib.hid (HT.out p W HR.out)
  go_upto_region 2 with (go_at_call 48; refine HTL.out.mono ?_; rintro e W5 ⟨rfl, rfl⟩)
  by_cases hF : F < 32
  · rw [HRL.out p F hF]
    go_wp2
    go_loopw [5, 11] (fun m c wr => wr = W ∧ ∃ i : Nat, i ≤ 3 ∧ c = .int .i64 i ∧ m = .int .u32 (M i)) (fun _ c _ => (3 - intOf c).toNat)
    case atStart => exact ⟨rfl, 0, by omega, rfl, by rw [HM0.out]⟩
    case round =>
      obtain ⟨rfl, i, hi, rfl, rfl⟩ := hrel
      by_cases hlt : i < 3
      · obtain ⟨m0, m1⟩ := HMR.out i (by omega)
        have hmm := HM1.out i
        by_cases hin : F + i < 32
        · have c1 := HR.out.int0 (F + i) (by omega)
          obtain ⟨g0, g1⟩ := HGR.out (F + i)
          generalize l.getD (F + i) 0 = x at *
          generalize M i = m at *
          have hj := w32_join 8 (m * 256) x (by omega) (by omega) (by omega) g0 (by omega) (by omega)
          have hw : IntKind.u32.wrap (m * 256) = m * 256 := nm_w32_wraps _ (by omega) (by omega)
          have HMM := Lib.hid hmm
          clear hmm
          go_wp2
          exact ⟨⟨trivial, i + 1, by omega, by simp, by rw [HMM.out]⟩, by simp [intOf]; omega⟩
        · have hx := HG0.out (F + i) (by omega)
          rw [hx, Int.add_zero] at hmm
          generalize M i = m at *
          have hw : IntKind.u32.wrap (m * 256) = m * 256 := nm_w32_wraps _ (by omega) (by omega)
          have HMM := Lib.hid hmm
          clear hmm
          go_wp2
          exact ⟨⟨trivial, i + 1, by omega, by simp, by rw [HMM.out]⟩, by simp [intOf]; omega⟩
      · obtain rfl : i = 3 := by omega
        obtain ⟨m0, m1⟩ := HM3.out
        generalize M 3 = m at *
        by_cases hbig : 8388608 ≤ m
        · have hbo : BO = (33 - (F : Int)) * 16777216 + m / 256 := by rw [HBO.out, if_pos hbig]
          have hd : decide (m ≥ 8388608) = true := by simpa using hbig
          have hj := w32_join 24 ((33 - (F : Int)) * 16777216) (m / 256) (by omega) (by omega) (by omega) (by omega) (by omega) (by omega)
          have hw : IntKind.u32.wrap ((33 - (F : Int)) * 16777216) = (33 - (F : Int)) * 16777216 := nm_w32_wraps _ (by omega) (by omega)
          have HBO2 := Lib.hid hbo
          clear hbo
          go_wp2
          go_ret
          exact ⟨ret_int (by rw [show ((32 - F : Nat) : Int) + 1 = 33 - (F : Int) by omega]; exact hj.trans (HBO2.out.symm.trans HBV.out.symm)), HK.out⟩
        · have hbo : BO = (32 - (F : Int)) * 16777216 + m := by rw [HBO.out, if_neg hbig]
          have hd : decide (m ≥ 8388608) = false := by simpa using hbig
          have hj := w32_join 24 ((32 - (F : Int)) * 16777216) m (by omega) (by omega) (by omega) (by omega) (by omega) (by omega)
          have hw : IntKind.u32.wrap ((32 - (F : Int)) * 16777216) = (32 - (F : Int)) * 16777216 := nm_w32_wraps _ (by omega) (by omega)
          have HBO2 := Lib.hid hbo
          clear hbo
          go_wp2
          go_ret
          exact ⟨ret_int (by rw [show ((32 - F : Nat) : Int) = 32 - (F : Int) by omega]; exact hj.trans (HBO2.out.symm.trans HBV.out.symm)), HK.out⟩
  · obtain rfl : F = 32 := by omega
    rw [HRZ.out p]
    have hm3 : M 3 = 0 := by
      have h1 : M 1 = M 0 * 256 + l.getD (32 + 0) 0 := HM1.out 0; have h2 : M 2 = M 1 * 256 + l.getD (32 + 1) 0 := HM1.out 1; have h3 : M 3 = M 2 * 256 + l.getD (32 + 2) 0 := HM1.out 2
      have g1 := HG0.out (32 + 0) (by omega); have g2 := HG0.out (32 + 1) (by omega); have g3 := HG0.out (32 + 2) (by omega)
      rw [HM0.out] at h1
      omega
    have hbo : bitsOf l = 0 := by rw [HBV.out, HBO.out, hm3]; rfl
    go_wp2
    go_loopw [5, 11] (fun m c wr => wr = W ∧ ∃ i : Nat, i ≤ 3 ∧ c = .int .i64 i ∧ m = .int .u32 0) (fun _ c _ => (3 - intOf c).toNat)
    case atStart => exact ⟨rfl, 0, by omega, rfl, rfl⟩
    case round =>
      obtain ⟨rfl, i, hi, rfl, rfl⟩ := hrel
      by_cases hlt : i < 3
      · go_wp2
        exact ⟨⟨trivial, i + 1, by omega, by simp, rfl⟩, by simp [intOf]; omega⟩
      · obtain rfl : i = 3 := by omega
        have HBO2 := Lib.hid hbo
        clear hbo
        go_wp2
        go_ret
        exact ⟨ret_int HBO2.out.symm, HK.out⟩
set_option maxRecDepth 100000 in
set_option maxHeartbeats 1000000 in
theorem subsidy_any (h : Int) (h0 : -9223372036854775808 ≤ h) (h1 : h < 9223372036854775808) (w : World) :
    Calls Tryz.prog 19 #[.int .i64 h] w fun e w' => e = .returned (.int .i64 (subsidy h)) ∧ w = w' := by
  have hs1 : h < 0 → subsidy h = 0 := fun hh => if_pos hh
  have hs2 := subsidy_late h
  have hs3 : ¬ h < 0 → subsidy h = 5000000000 / 2 ^ (h / 150).toNat := fun hh => if_neg hh
  generalize subsidy h = S at *
  have HS1 := Lib.hid hs1; have HS2 := Lib.hid hs2; have HS3 := Lib.hid hs3
  clear hs1 hs2 hs3
  by_cases hn : h < 0
  · have hS := HS1.out hn
    have HS := Lib.hid hS
    clear hS
    go_enter Tryz.func19, Tryz.ntmps19
    go_wp2
    go_ret
    exact ⟨ret_int HS.out.symm, rfl⟩
  · obtain ⟨k, hk⟩ : ∃ k : Nat, h / 150 = k := ⟨(h / 150).toNat, by omega⟩
    have ht : h.tdiv 150 = k := by rw [Int.tdiv_eq_ediv_of_nonneg (by omega), hk]
    have h150 : h = 150 * k + h % 150 := by omega
    by_cases hb : 64 ≤ k
    · have hS := HS2.out (by omega)
      have HS := Lib.hid hS
      have hkb : (k : Int) < 9223372036854775808 := by omega
      have hkl : (64 : Int) ≤ k := by omega
      generalize (k : Int) = z at *
      clear hS h150 hk hb
      go_enter Tryz.func19, Tryz.ntmps19
      go_wp2
      go_ret
      exact ⟨ret_int HS.out.symm, rfl⟩
    · have hS := HS3.out hn
      rw [hk, Int.toNat_natCast] at hS
      have HS := Lib.hid hS
      clear hS hk h150
      go_enter Tryz.func19, Tryz.ntmps19
      go_wp2
      go_ret
      exact ⟨ret_int HS.out.symm, rfl⟩
/-- a guarded load of a whole array -/
theorem nm_wpList_load_on {P : Program} {ops : Array Oper} {rest : List Oper} {o : Oper} {a : Act} {w : World} {Q : Exit → Act → World → Prop} (hw : Region.wanted o (yielded ops a.tmps) = true) (ty : TypeId) (x : Operand) (ho : o.op = .load ty x)
    (g off : Nat) (hx : a.eval x = .pointer (some ⟨g, off, none⟩)) (cs : List Value) (d : TypeDesc) (hg : Row w g off cs)
    (hu : P.underlying ty = some d) (hd : (match d with | .struct _ | .array _ _ => true | _ => false) = true) (hi : (P.info? ty).map (·.size) = some cs.length)
    (h : wpList P ops Q rest (a.put o.dst (.agg cs.toArray)) w) : wpList P ops Q (o :: rest) a w :=
  BigFrame.wpList_want hw fun _ hK => by
    unfold Oper.wp execOp
    simp only [ho, hx, Instr.loadAt, Instr.sureAddr, Sem.run_bind, Sem.run_pure, Result.andThen_ok, run_loadVar_at w g off ty cs d hg hu hd hi]
    exact hK _ _ h
/-- a guarded build of a value of noughts -/
theorem wpList_zero_on {P : Program} {ops : Array Oper} {rest : List Oper} {o : Oper} {a : Act} {w : World} {Q : Exit → Act → World → Prop} (hw : Region.wanted o (yielded ops a.tmps) = true) (ty : TypeId) (ho : o.op = .build ty #[])
    (z : Value) (hz : (execOp a.eval o).run P w = .ok (.value z) w)
    (h : wpList P ops Q rest (a.put o.dst z) w) : wpList P ops Q (o :: rest) a w :=
  BigFrame.wpList_want hw fun _ hK => by
    unfold Oper.wp
    rw [hz]
    exact hK _ _ h
def awkB : List Int := [0, 0, 0, 0, 255, 255, 0, 0, 0, 0, 0, 0, 0, 0, 0, 0, 0, 0, 0, 0, 0, 0, 0, 0, 0, 0, 0, 0, 0, 0, 0, 0]
theorem awk_target : tgtRes 486604799 = awkB := by decide +kernel
theorem awk_err : tgtErr 486604799 = 0 := by decide +kernel
theorem awk_bits : bitsOf awkB = 486604799 := by decide +kernel
theorem awk_coins : subsidy 300 = 1250000000 := by decide +kernel
theorem awk_bytes : Bytes awkB := by unfold Bytes Byte; decide +kernel
def head0 : List Value := headCells 0 (List.replicate 32 0) (List.replicate 32 0) 0 0 0
set_option maxRecDepth 100000 in
set_option maxHeartbeats 2000000 in
theorem awake_any (w : World) : Calls Tryz.prog 4 #[] w fun e w' => e = .returned (.bool true) ∧ Keeps w w' := by
  have hT : ∀ W, Calls Tryz.prog 17 #[.int .u32 486604799] W fun e w' => e = .returned (.tuple #[.agg (awkB.map (Value.int .u8)).toArray, .int .i64 0]) ∧ Keeps W w' := fun W => by
    have := target_any 486604799 (by decide) (by decide) W
    rwa [awk_target, awk_err] at this
  have hB : ∀ W, Calls Tryz.prog 18 #[.agg (awkB.map (Value.int .u8)).toArray] W fun e w' => e = .returned (.int .u32 486604799) ∧ Keeps W w' := fun W => by
    have := bits_any awkB awk_bytes rfl W
    rwa [awk_bits] at this
  have hS : ∀ W, Calls Tryz.prog 19 #[.int .i64 300] W fun e w' => e = .returned (.int .i64 1250000000) ∧ W = w' := fun W => by
    have := subsidy_any 300 (by decide) (by decide) W
    rwa [awk_coins] at this
  have hH : ∀ W, Calls Tryz.prog 7 #[.agg head0.toArray] W fun e w' => ∃ a c, e = .returned (.slice a 80 c) ∧ Keeps W w' := fun W => by
    refine (encodeHeader_any 0 (List.replicate 32 0) (List.replicate 32 0) 0 0 0 (by decide) (by decide) (by unfold nm_U32; decide) (by unfold nm_U32; decide) (by unfold nm_U32; decide) W).mono ?_
    rintro e w' ⟨v, rfl, hO⟩
    obtain ⟨a, c, rfl⟩ := hO.any
    exact ⟨a, c, rfl, hO.keeps⟩
  have hl9 : awkB.length = 32 := rfl
  have b4 : awkB.getD 4 0 = 255 := rfl
  have b6 : awkB.getD 6 0 = 0 := rfl
  have HT := Lib.hid hT; have HB := Lib.hid hB; have HS := Lib.hid hS; have HH := Lib.hid hH; have B4 := Lib.hid b4; have B6 := Lib.hid b6
  clear hT hB hS hH b4 b6
  generalize awkB = L at *
  go_enter Tryz.func4, Tryz.ntmps4
  go_upto_region 2 with (first | (go_at_call 17; refine (HT.out _).mono ?_; rintro e W2 ⟨rfl, hk2⟩; have HK2 := Lib.hid hk2; clear hk2) | (refine wpList_store_row rfl 51 (.tmp 1) (.tmp 5) rfl _ 0 rfl (List.replicate 32 (Value.int .u8 0)) (L.map (Value.int .u8)) rfl (Row.new _ _ _ rfl) (by simp [hl9]) (sz_n32 L hl9) (int_oneCell _) ?_; intro W3 hr3 hc3; have HR3 := Lib.hid hr3; have HC3 := Lib.hid hc3; clear hr3 hc3))
  have hk3 : Keeps w W3 := nm_keeps_chg (nm_keeps_alloc HK2.out _) HC3.out HK2.out.size
  have HK3 := Lib.hid hk3
  generalize W2.heap.size = p at *
  have c4 := HR3.out.int0 4 (by omega)
  have c6 := HR3.out.int0 6 (by omega)
  rw [B4.out] at c4
  rw [B6.out] at c6
  clear hk3 HK2 HC3
  have HZ0 : ∀ (W : World) (a : Act) (o : Oper), o.op = .build 26 #[] → (execOp a.eval o).run Tryz.prog W = .ok (.value (.agg head0.toArray)) W := fun W a o ho => by
    unfold execOp; rw [ho]; kernel_rfl
  generalize head0 = H0 at *
  have HZ := Lib.hid HZ0
  clear HZ0
  go_wp2_with (first | (refine nm_wpList_load_on (by kernel_rfl) 51 (.tmp 1) rfl p 0 rfl (L.map (Value.int .u8)) _ HR3.out Tryz.underlying51 rfl (sz_n32 L hl9) ?_) | (refine wpList_zero_on (by kernel_rfl) 26 rfl _ (HZ.out _ _ _ rfl) ?_) | (go_at_call 18; refine (HB.out _).mono ?_; rintro e W4 ⟨rfl, hk4⟩; have HK4 := Lib.hid hk4; clear hk4) | (go_at_call 19; refine (HS.out _).mono ?_; rintro e W5 ⟨rfl, rfl⟩) | (go_at_call 7; refine (HH.out _).mono ?_; rintro e W6 ⟨a6, c6', rfl, hk6⟩; have HK6 := Lib.hid hk6; clear hk6))
  go_ret
  exact ⟨rfl, (HK3.out.trans HK4.out).trans HK6.out⟩
end Go.Proofs.YtcodpdpeklammaaGreatDoor
