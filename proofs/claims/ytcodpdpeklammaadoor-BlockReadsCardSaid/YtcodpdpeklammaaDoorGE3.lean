/- Two heads compared; the reference's Same of blocks. | The reference's Same of blocks. -/
import Derived.Test.YtcodpdpeklammaaDoorGD8
import Derived.Test.YtcodpdpeklammaaDoorGE2
import Derived.Test.YtcodpdpeklammaaDoorGA5
namespace Go.Proofs.YtcodpdpeklammaaDoor
set_option linter.unusedVariables false
set_option linter.unusedSimpArgs false
open Go Go.RowKit

instance : DecidableEq HdD := fun a b => decidable_of_iff (a.ver = b.ver ∧ a.prev = b.prev ∧ a.merkle = b.merkle ∧ a.time = b.time ∧ a.bits = b.bits ∧ a.nonce = b.nonce) (by cases a; cases b; simp)
def hdLits (h : HdD) : List Lit := Lit.int .i32 h.ver :: (h.prev.map (Lit.int .u8) ++ (h.merkle.map (Lit.int .u8) ++ [.int .u32 h.time, .int .u32 h.bits, .int .u32 h.nonce]))
theorem wf_i32 {x : Int} (h : I32 x) : (Lit.int .i32 x).wf = true := by
  obtain ⟨h0, h1⟩ := h
  unfold Lit.wf
  rw [Bool.and_eq_true, decide_eq_true_eq, decide_eq_true_eq]
  exact ⟨show (-2147483648 : Int) ≤ x by omega, show x ≤ (2147483647 : Int) by omega⟩
theorem drop_take1 {l : List Value} {i : Nat} {x : Value} (h : l[i]? = some x) : (l.drop i).take 1 = [x] := by
  obtain ⟨hi, rfl⟩ := List.getElem?_eq_some_iff.1 h
  rw [List.drop_eq_getElem_cons hi]; rfl
theorem lits_head (D : Nat) (h : HdD) (ok : HdOk h) : Tryd.prog.keyLits (D + 3) 30 (hdCells h) = some (hdLits h) := by
  have e1 : Tryd.prog.cellsOf 30 = 68 := by kernel_rfl
  have e2 : Tryd.prog.cellsOf 27 = 32 := by kernel_rfl
  have e3 : Tryd.prog.cellsOf 28 = 1 := by kernel_rfl
  have e4 : Tryd.prog.cellsOf 21 = 1 := by kernel_rfl
  obtain ⟨a1, a2, a3⟩ := headCells_at h.ver h.prev h.merkle h.time h.bits h.nonce ok.prevLen ok.merkleLen
  have d0 : ((hdCells h).drop 0).take 1 = [.int .i32 h.ver] := rfl
  have d1 : ((hdCells h).drop 1).take 32 = h.prev.map (Value.int .u8) := headCells_prev _ _ _ _ _ _ ok.prevLen
  have d2 : ((hdCells h).drop 33).take 32 = h.merkle.map (Value.int .u8) := headCells_merkle _ _ _ _ _ _ ok.prevLen ok.merkleLen
  have d3 : ((hdCells h).drop 65).take 1 = [.int .u32 h.time] := drop_take1 a1
  have d4 : ((hdCells h).drop 66).take 1 = [.int .u32 h.bits] := drop_take1 a2
  have d5 : ((hdCells h).drop 67).take 1 = [.int .u32 h.nonce] := drop_take1 a3
  unfold Program.keyLits
  rw [Tryd.underlying30]
  simp only [e1]
  rw [if_pos ⟨hdCells_len ok.prevLen ok.merkleLen, by kernel_rfl⟩]
  simp only [List.mapM_cons, List.mapM_nil, e2, e3, e4, d0, d1, d2, d3, d4, d5, lits_hash D h.prev ok.prevLen ok.prev, lits_hash D h.merkle ok.merkleLen ok.merkle, lits_int (D + 1) _ _ _ Tryd.underlying28 (wf_u32 ok.time), lits_int (D + 1) _ _ _ Tryd.underlying28 (wf_u32 ok.bits), lits_int (D + 1) _ _ _ Tryd.underlying28 (wf_u32 ok.nonce), lits_int (D + 1) _ _ _ Tryd.underlying21 (wf_i32 ok.ver)]
  simp [hdLits]
theorem lits_u8_inj {h h' : List Int} (e : h.map (Lit.int .u8) = h'.map (Lit.int .u8)) : h = h' := by
  have := congrArg (List.map (fun l => match l with | Lit.int _ n => n | _ => 0)) e
  simpa [List.map_map, Function.comp_def] using this
theorem hdLits_inj {h h' : HdD} (e : hdLits h = hdLits h') (ok : HdOk h) (ok' : HdOk h') : h = h' := by
  unfold hdLits at e
  injection e with e0 e
  obtain ⟨e1, e⟩ := List.append_inj e (by simp [ok.prevLen, ok'.prevLen])
  obtain ⟨e2, e⟩ := List.append_inj e (by simp [ok.merkleLen, ok'.merkleLen])
  have e1 := lits_u8_inj e1
  have e2 := lits_u8_inj e2
  simp only [List.cons.injEq, Lit.int.injEq, true_and, and_true] at e e0
  cases h; cases h'
  simp only [HdD.mk.injEq]
  exact ⟨e0, e1, e2, e.1, e.2.1, e.2.2⟩
theorem hd_formed (h : HdD) (ok : HdOk h) : (Value.agg (hdCells h).toArray).formed Tryd.prog 30 = true := by
  have e1 : Tryd.prog.cellsOf 30 = 68 := by kernel_rfl
  unfold Value.formed
  rw [Tryd.underlying30]
  simp [e1, hdCells_len ok.prevLen ok.merkleLen]
theorem hd_equal (W : World) (h h' : HdD) (ok : HdOk h) (ok' : HdOk h') :
    (Op.equalIn 10000 30 (.agg (hdCells h).toArray) (.agg (hdCells h').toArray)).run Tryd.prog W = .ok (decide (h = h')) W := by
  have hd := run_equalIn_deep (P := Tryd.prog) 9996 4 30 (by kernel_rfl)
  obtain ⟨r, hr, hiff⟩ := hd W 3 3 _ _ _ _ (hd_formed h ok) (hd_formed h' ok') (lits_head 0 h ok) (lits_head 0 h' ok')
  suffices key : r = decide (h = h') by rw [hr, key]
  clear hr hd
  by_cases he : h = h'
  · rw [decide_eq_true he]; exact hiff.2 (by rw [he])
  · rw [decide_eq_false he]
    cases r
    · rfl
    · exact absurd (hdLits_inj (hiff.1 rfl) ok ok') he
end Go.Proofs.YtcodpdpeklammaaDoor
namespace Go.Proofs.YtcodpdpeklammaaDoor
set_option linter.unusedVariables false
set_option linter.unusedSimpArgs false
open Go Go.RowKit

theorem blk_hd {w : World} {p : Nat} {h : HdD} {tv : Value} (hr : Row w p 0 (blkCells h tv)) (h1 : h.prev.length = 32) (h2 : h.merkle.length = 32) : Row w p 0 (hdCells h) := by
  have := hr.take 68
  unfold blkCells at this
  rwa [List.take_left' (hdCells_len h1 h2)] at this
set_option maxRecDepth 100000 in
set_option maxHeartbeats 8000000 in
theorem rbsame_any {S T R S' T' R' : Nat → Prop} (h h' : HdD) (ok : HdOk h) (ok' : HdOk h') (tv tv' : Value) (l l' : List TxD) (w : World) (ht : RTxs S T R w tv l) (ht' : RTxs S' T' R' w tv' l') :
    Calls Tryd.prog 8 #[.agg (blkCells h tv).toArray, .agg (blkCells h' tv').toArray] w fun r w' => r = .returned (.bool (decide (h = h' ∧ l = l'))) ∧ Keeps w w' := by
  obtain ⟨a, c, rfl, hc, hcm⟩ := ht.any
  obtain ⟨a', c', rfl, hc', hcm'⟩ := ht'.any
  have hsm := ht.small
  have hsm' := ht'.small
  have HT := Lib.hid ht; have HT' := Lib.hid ht'
  clear ht ht'
  have HE := Lib.hid (fun W => hd_equal W h h' ok ok')
  have ZH := Lib.hid (sz_hd ok.prevLen ok.merkleLen); have ZH' := Lib.hid (sz_hd ok'.prevLen ok'.merkleLen)
  have HC := Lib.hid (fun (W : World) (p : Nat) (hr : Row W p 0 (blkCells h (.slice a l.length c))) => (blk_at68 hr ok.prevLen ok.merkleLen).1)
  have HC' := Lib.hid (fun (W : World) (p : Nat) (hr : Row W p 0 (blkCells h' (.slice a' l'.length c'))) => (blk_at68 hr ok'.prevLen ok'.merkleLen).1)
  have HHD := Lib.hid (fun (W : World) (p : Nat) (hr : Row W p 0 (blkCells h (.slice a l.length c))) => blk_hd hr ok.prevLen ok.merkleLen)
  have HHD' := Lib.hid (fun (W : World) (p : Nat) (hr : Row W p 0 (blkCells h' (.slice a' l'.length c'))) => blk_hd hr ok'.prevLen ok'.merkleLen)
  obtain ⟨RR, hRR⟩ : ∃ RR : Bool, RR = decide (h = h' ∧ l = l') := ⟨_, rfl⟩
  obtain ⟨E, hE⟩ : ∃ E : Bool, E = decide (h = h') := ⟨_, rfl⟩
  rw [← hE] at HE
  rw [← hRR]
  have hcase : (RR = false ∧ (E = false ∨ (E = true ∧ ¬ l.length = l'.length))) ∨ (E = true ∧ l.length = l'.length ∧ (RR = true ↔ l = l')) := by
    by_cases he : h = h'
    · rw [decide_eq_true he] at hE
      by_cases hl : l.length = l'.length
      · exact .inr ⟨hE, hl, by rw [hRR, decide_eq_true_iff]; exact ⟨fun x => x.2, fun x => ⟨he, x⟩⟩⟩
      · exact .inl ⟨by rw [hRR]; exact decide_eq_false (fun x => hl (by rw [x.2])), .inr ⟨hE, hl⟩⟩
    · exact .inl ⟨by rw [hRR]; exact decide_eq_false (fun x => he x.1), .inl (by rw [hE]; exact decide_eq_false he)⟩
  clear hRR hE
  generalize blkCells h (.slice a l.length c) = B1 at *
  generalize blkCells h' (.slice a' l'.length c') = B2 at *
  generalize hdCells h = A1 at *
  generalize hdCells h' = A2 at *
  rcases hcase with ⟨rfl, hcase⟩ | ⟨rfl, hlen, hiff⟩
  · rcases hcase with rfl | ⟨rfl, hlen⟩
    all_goals
      try (have z1 : ((l.length : Int) != l'.length) = true := by rw [bne_iff_ne]; omega)
      try clear hlen
      go_enter Tryd.func8, Tryd.ntmps8
      go_upto_region 1 with (fail)
      refine wp_rows2 (fun W0 hk hr1 hr2 hs => ?_)
      have hr1 : Row W0 w.heap.size 0 B1 := by simpa using hr1
      have hr2 : Row W0 (w.heap.size + 1) 0 B2 := by simpa using hr2
      have b0 := HC.out _ _ hr1
      have b1 := HC'.out _ _ hr2
      have HH1 := Lib.hid (HHD.out _ _ hr1); have HH2 := Lib.hid (HHD'.out _ _ hr2)
      have HK := Lib.hid hk
      clear hk hr1 hr2 hs
      generalize w.heap.size = p at *
      go_wp2_with (first | ((with_reducible refine gate_load 30 (.tmp 6) ?_); refine wpList_load_at rfl 30 (.tmp 6) rfl p 0 rfl _ _ HH1.out Tryd.underlying30 rfl ZH.out ?_) | ((with_reducible refine gate_load 30 (.tmp 8) ?_); refine wpList_load_at rfl 30 (.tmp 8) rfl (p + 1) 0 rfl _ _ HH2.out Tryd.underlying30 rfl ZH'.out ?_) | ((with_reducible refine gate_bin .neq 30 30 (.tmp 7) (.tmp 9) ?_); refine wpList_neq_at (by kernel_rfl) 30 30 (.tmp 7) (.tmp 9) rfl _ _ rfl rfl _ HE.out (by kernel_rfl) ?_))
      go_ret
      exact ⟨rfl, HK.out⟩
  · have z1 : ((l.length : Int) != l'.length) = false := by rw [bne_eq_false_iff_eq]; omega
    have HIFF := Lib.hid hiff; have HLEN := Lib.hid hlen
    clear hiff hlen
    go_enter Tryd.func8, Tryd.ntmps8
    go_upto_region 1 with (fail)
    refine wp_rows2 (fun W0 hk hr1 hr2 hs => ?_)
    have hr1 : Row W0 w.heap.size 0 B1 := by simpa using hr1
    have hr2 : Row W0 (w.heap.size + 1) 0 B2 := by simpa using hr2
    have b0 := HC.out _ _ hr1
    have b1 := HC'.out _ _ hr2
    have HH1 := Lib.hid (HHD.out _ _ hr1); have HH2 := Lib.hid (HHD'.out _ _ hr2)
    have HK := Lib.hid hk; have HR1 := Lib.hid hr1; have HR2 := Lib.hid hr2
    clear hk hr1 hr2 hs HHD HHD'
    generalize w.heap.size = p at *
    go_upto_region 3 with (first | ((with_reducible refine gate_load 30 (.tmp 6) ?_); refine wpList_load_at rfl 30 (.tmp 6) rfl p 0 rfl _ _ HH1.out Tryd.underlying30 rfl ZH.out ?_) | ((with_reducible refine gate_load 30 (.tmp 8) ?_); refine wpList_load_at rfl 30 (.tmp 8) rfl (p + 1) 0 rfl _ _ HH2.out Tryd.underlying30 rfl ZH'.out ?_) | ((with_reducible refine gate_bin .neq 30 30 (.tmp 7) (.tmp 9) ?_); refine wpList_neq_at (by kernel_rfl) 30 30 (.tmp 7) (.tmp 9) rfl _ _ rfl rfl _ HE.out (by kernel_rfl) ?_))
    clear z1 HH1 HH2 HE ZH ZH'
    try (rename (((l.length : Int) != (l'.length : Int)) = false) => hbad; clear hbad)
    go_wp2
    go_loopw [5] (fun c wr => ∃ i : Nat, i ≤ l.length ∧ c = .int .i64 i ∧ Hid (Keeps W0 wr) ∧ Hid (∀ j, j < i → l[j]? = l'[j]?)) (fun c _ => (l.length - intOf c).toNat)
    case atStart => exact ⟨0, by omega, rfl, Lib.hid (Keeps.refl _), Lib.hid (fun j hj => by omega)⟩
    case round =>
      obtain ⟨i, hi, rfl, HKR, HEQ⟩ := hrel
      clear b0 b1
      have HCC := Lib.hid (fun (W : World) (hk : Keeps wr W) => And.intro (HC.out _ _ (HR1.out.keeps (HKR.out.trans hk))) (HC'.out _ _ (HR2.out.keeps (HKR.out.trans hk))))
      obtain ⟨b0, b1⟩ := HCC.out _ (Keeps.refl _)
      by_cases hlt : i < l.length
      · obtain ⟨g, off, iv, ov, d, rfl, hg, hdi, hrow, hrtx⟩ := (HT.out.keeps (HK.out.trans HKR.out)).at hlt
        have hlt' : i < l'.length := by rw [← HLEN.out]; exact hlt
        obtain ⟨g', off', iv', ov', e, rfl, hg', hei, hrow', hrtx'⟩ := (HT'.out.keeps (HK.out.trans HKR.out)).at hlt'
        have HCO := Lib.hid (fun W (hk : Keeps wr W) => rsame_any d e iv ov iv' ov' W (hrtx.keeps hk) (hrtx'.keeps hk))
        have HROW := Lib.hid hrow; have HROW' := Lib.hid hrow'; have HDI := Lib.hid hdi; have HEI := Lib.hid hei
        obtain ⟨ia, ic, rfl, -⟩ := hrtx.ins.any
        obtain ⟨oa, oc, rfl, -⟩ := hrtx.outs.any
        obtain ⟨ia', ic', rfl, -⟩ := hrtx'.ins.any
        obtain ⟨oa', oc', rfl, -⟩ := hrtx'.outs.any
        clear hdi hei hrow hrow' hrtx hrtx'
        obtain ⟨B, hB⟩ : ∃ B : Bool, B = decide (d = e) := ⟨_, rfl⟩
        rw [← hB] at HCO
        have HB := Lib.hid hB
        clear hB
        go_upto_region 6 with (fail)
        clear b0 b1
        refine wp_region_head (S := fun W => Hid ((fun W => Keeps wr W ∧ W.cell? ⟨p, 68, none⟩ = some (.slice (some ⟨g, off, none⟩) l.length c) ∧ W.cell? ⟨p + 1, 68, none⟩ = some (.slice (some ⟨g', off', none⟩) l'.length c')) W)) 11 (by kernel_rfl) (by kernel_rfl) ?_ (fun hHeld => ?_)
        focus exact Lib.hid ⟨keeps_drew (Keeps.refl wr), HCC.out _ (keeps_drew (Keeps.refl wr))⟩
        refine wpAnyHL_take (i := 0) (oi := ?_) (v := ?_) ?_ ?_ ?_ ?_ ?_ ?_ ?_ ?_ ?_ (Or.inl ⟨?_, ?_⟩) ?_ ?_
        rotate_left 2
        focus (simp only [List.getElem?_toArray, List.getElem?_cons_succ, List.getElem?_cons_zero]; exact rfl)
        focus kernel_rfl
        focus kernel_rfl
        focus kernel_rfl
        focus kernel_rfl
        focus kernel_rfl
        focus kernel_rfl
        focus kernel_rfl
        focus (exact fun _ _ _ h => h)
        focus rfl
        focus ((intro wSw hSw; (have hSw := hSw.out); (try dsimp only at hSw); go_simp) <;> with_reducible rfl)
        focus assumption
        try simp only [Act.put, List.setIfInBounds_toArray, List.set_cons_zero, List.set_cons_succ]
        refine wpAnyHL_take (i := 1) (oi := ?_) (v := ?_) ?_ ?_ ?_ ?_ ?_ ?_ ?_ ?_ ?_ (Or.inl ⟨?_, ?_⟩) ?_ ?_
        rotate_left 2
        focus (simp only [List.getElem?_toArray, List.getElem?_cons_succ, List.getElem?_cons_zero]; exact rfl)
        focus kernel_rfl
        focus kernel_rfl
        focus kernel_rfl
        focus kernel_rfl
        focus kernel_rfl
        focus kernel_rfl
        focus kernel_rfl
        focus (exact fun _ _ _ h => h)
        focus rfl
        focus ((intro wSw hSw; (have hSw := hSw.out); (try dsimp only at hSw); go_simp) <;> with_reducible rfl)
        focus assumption
        try simp only [Act.put, List.setIfInBounds_toArray, List.set_cons_zero, List.set_cons_succ]
        refine wpAnyHL_take (i := 2) (oi := ?_) (v := ?_) ?_ ?_ ?_ ?_ ?_ ?_ ?_ ?_ ?_ (Or.inl ⟨?_, ?_⟩) ?_ ?_
        rotate_left 2
        focus (simp only [List.getElem?_toArray, List.getElem?_cons_succ, List.getElem?_cons_zero]; exact rfl)
        focus kernel_rfl
        focus kernel_rfl
        focus kernel_rfl
        focus kernel_rfl
        focus kernel_rfl
        focus kernel_rfl
        focus kernel_rfl
        focus (exact fun _ _ _ h => h)
        focus rfl
        focus ((intro wSw hSw; (have hSw := hSw.out); (try dsimp only at hSw); go_simp) <;> with_reducible rfl)
        focus assumption
        try simp only [Act.put, List.setIfInBounds_toArray, List.set_cons_zero, List.set_cons_succ]
        refine wpAnyHL_take (i := 3) (oi := ?_) (v := ?_) ?_ ?_ ?_ ?_ ?_ ?_ ?_ ?_ ?_ (Or.inl ⟨?_, ?_⟩) ?_ ?_
        rotate_left 2
        focus (simp only [List.getElem?_toArray, List.getElem?_cons_succ, List.getElem?_cons_zero]; exact rfl)
        focus kernel_rfl
        focus kernel_rfl
        focus kernel_rfl
        focus kernel_rfl
        focus kernel_rfl
        focus kernel_rfl
        focus kernel_rfl
        focus (exact fun _ _ _ h => h)
        focus rfl
        focus ((intro wSw hSw; (have hSw := hSw.out); (try dsimp only at hSw); go_simp) <;> with_reducible rfl)
        focus assumption
        try simp only [Act.put, List.setIfInBounds_toArray, List.set_cons_zero, List.set_cons_succ]
        refine wpAnyHL_take (i := 4) (oi := ?_) (v := ?_) ?_ ?_ ?_ ?_ ?_ ?_ ?_ ?_ ?_ (Or.inl ⟨?_, ?_⟩) ?_ ?_
        rotate_left 2
        focus (simp only [List.getElem?_toArray, List.getElem?_cons_succ, List.getElem?_cons_zero]; exact rfl)
        focus kernel_rfl
        focus kernel_rfl
        focus kernel_rfl
        focus kernel_rfl
        focus kernel_rfl
        focus kernel_rfl
        focus kernel_rfl
        focus (exact fun _ _ _ h => h)
        focus rfl
        focus (intro wSw hSw; (have hSw := hSw.out); (refine run_load_row 61 (.tmp 30) ?_ g (off + i * 4) ?_ _ _ (HROW.out.keeps hSw.1) Tryd.underlying61 rfl (sz_tx _ _ _ _)) <;> rfl)
        focus assumption
        try simp only [Act.put, List.setIfInBounds_toArray, List.set_cons_zero, List.set_cons_succ]
        refine wpAnyHL_take (i := 5) (oi := ?_) (v := ?_) ?_ ?_ ?_ ?_ ?_ ?_ ?_ ?_ ?_ (Or.inl ⟨?_, ?_⟩) ?_ ?_
        rotate_left 2
        focus (simp only [List.getElem?_toArray, List.getElem?_cons_succ, List.getElem?_cons_zero]; exact rfl)
        focus kernel_rfl
        focus kernel_rfl
        focus kernel_rfl
        focus kernel_rfl
        focus kernel_rfl
        focus kernel_rfl
        focus kernel_rfl
        focus (exact fun _ _ _ h => h)
        focus rfl
        focus ((intro wSw hSw; (have hSw := hSw.out); (try dsimp only at hSw); go_simp) <;> with_reducible rfl)
        focus assumption
        try simp only [Act.put, List.setIfInBounds_toArray, List.set_cons_zero, List.set_cons_succ]
        refine wpAnyHL_take (i := 6) (oi := ?_) (v := ?_) ?_ ?_ ?_ ?_ ?_ ?_ ?_ ?_ ?_ (Or.inl ⟨?_, ?_⟩) ?_ ?_
        rotate_left 2
        focus (simp only [List.getElem?_toArray, List.getElem?_cons_succ, List.getElem?_cons_zero]; exact rfl)
        focus kernel_rfl
        focus kernel_rfl
        focus kernel_rfl
        focus kernel_rfl
        focus kernel_rfl
        focus kernel_rfl
        focus kernel_rfl
        focus (exact fun _ _ _ h => h)
        focus rfl
        focus ((intro wSw hSw; (have hSw := hSw.out); (try dsimp only at hSw); go_simp) <;> with_reducible rfl)
        focus assumption
        try simp only [Act.put, List.setIfInBounds_toArray, List.set_cons_zero, List.set_cons_succ]
        refine wpAnyHL_take (i := 7) (oi := ?_) (v := ?_) ?_ ?_ ?_ ?_ ?_ ?_ ?_ ?_ ?_ (Or.inl ⟨?_, ?_⟩) ?_ ?_
        rotate_left 2
        focus (simp only [List.getElem?_toArray, List.getElem?_cons_succ, List.getElem?_cons_zero]; exact rfl)
        focus kernel_rfl
        focus kernel_rfl
        focus kernel_rfl
        focus kernel_rfl
        focus kernel_rfl
        focus kernel_rfl
        focus kernel_rfl
        focus (exact fun _ _ _ h => h)
        focus rfl
        focus ((intro wSw hSw; (have hSw := hSw.out); (try dsimp only at hSw); go_simp) <;> with_reducible rfl)
        focus assumption
        try simp only [Act.put, List.setIfInBounds_toArray, List.set_cons_zero, List.set_cons_succ]
        refine wpAnyHL_take (i := 8) (oi := ?_) (v := ?_) ?_ ?_ ?_ ?_ ?_ ?_ ?_ ?_ ?_ (Or.inl ⟨?_, ?_⟩) ?_ ?_
        rotate_left 2
        focus (simp only [List.getElem?_toArray, List.getElem?_cons_succ, List.getElem?_cons_zero]; exact rfl)
        focus kernel_rfl
        focus kernel_rfl
        focus kernel_rfl
        focus kernel_rfl
        focus kernel_rfl
        focus kernel_rfl
        focus kernel_rfl
        focus (exact fun _ _ _ h => h)
        focus rfl
        focus ((intro wSw hSw; (have hSw := hSw.out); (try dsimp only at hSw); go_simp) <;> with_reducible rfl)
        focus assumption
        try simp only [Act.put, List.setIfInBounds_toArray, List.set_cons_zero, List.set_cons_succ]
        refine wpAnyHL_take (i := 9) (oi := ?_) (v := ?_) ?_ ?_ ?_ ?_ ?_ ?_ ?_ ?_ ?_ (Or.inl ⟨?_, ?_⟩) ?_ ?_
        rotate_left 2
        focus (simp only [List.getElem?_toArray, List.getElem?_cons_succ, List.getElem?_cons_zero]; exact rfl)
        focus kernel_rfl
        focus kernel_rfl
        focus kernel_rfl
        focus kernel_rfl
        focus kernel_rfl
        focus kernel_rfl
        focus kernel_rfl
        focus (exact fun _ _ _ h => h)
        focus rfl
        focus (intro wSw hSw; (have hSw := hSw.out); (refine run_load_row 61 (.tmp 35) ?_ g' (off' + i * 4) ?_ _ _ (HROW'.out.keeps hSw.1) Tryd.underlying61 rfl (sz_tx _ _ _ _)) <;> rfl)
        focus assumption
        try simp only [Act.put, List.setIfInBounds_toArray, List.set_cons_zero, List.set_cons_succ]
        refine wpAnyHL_one (i := 10) (o := ?_) (by kernel_rfl) (by kernel_rfl) ?_ ?_
        rotate_left 1
        focus (simp only [List.getElem?_toArray, List.getElem?_cons_succ, List.getElem?_cons_zero]; exact rfl)
        go_wp2_with (go_at_call 26; refine (HCO.out _ hHeld.out.1).mono ?_; rintro e W7 ⟨rfl, hk7⟩; have HK7 := Lib.hid hk7; clear hk7)
        try dsimp only [StepQ]
        refine ⟨?_, fun hHeld => ?_⟩
        focus (exact Lib.hid (⟨hHeld.out.1.trans HK7.out, HCC.out _ (hHeld.out.1.trans HK7.out)⟩))
        try simp only [Act.put, List.setIfInBounds_toArray, List.set_cons_zero, List.set_cons_succ]
        refine wpAnyHL_done (by kernel_rfl) ?_
        try simp only [List.drop_succ_cons, List.drop_zero]
        have HKK := Lib.hid (HKR.out.trans hHeld.out.1)
        clear hHeld HCO HCC HK7
        cases B
        · have hne : RR = false := by
            cases hr : RR with
            | false => rfl
            | true =>
              have h1 := HIFF.out.1 hr
              have h2 := HDI.out
              rw [h1, HEI.out] at h2
              have h3 : d = e := (Option.some.inj h2).symm
              have h4 := HB.out
              rw [decide_eq_true h3] at h4
              cases h4
          subst hne
          go_wp2
          go_ret
          exact ⟨rfl, HK.out.trans HKK.out⟩
        · have hde : d = e := of_decide_eq_true HB.out.symm
          have HDE := Lib.hid hde
          clear hde
          go_wp2
          go_roundw
          case rel =>
            refine ⟨i + 1, by omega, by go_num, HKK, Lib.hid fun j hj => ?_⟩
            by_cases hji : j = i
            · subst hji; rw [HDI.out, HEI.out, HDE.out]
            · exact HEQ.out j (by omega)
          case measure => simp [intOf]; omega
      · obtain rfl : i = l.length := by omega
        have hall : RR = true := HIFF.out.2 (list_eq_upto HLEN.out HEQ.out)
        subst hall
        go_wp2
        go_ret
        exact ⟨rfl, HK.out.trans HKR.out⟩
end Go.Proofs.YtcodpdpeklammaaDoor
