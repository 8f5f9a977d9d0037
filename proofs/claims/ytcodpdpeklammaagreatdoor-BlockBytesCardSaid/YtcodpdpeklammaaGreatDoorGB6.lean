/- tx.reader's input: the walk. | Lists of one's own, appended to where meanwhile blocks below 'base' may have changed. (Printed by growd.py.) | list, at inputs, outputs and texts. -/
import Derived.Test.YtcodpdpeklammaaGreatDoorGB5
import Derived.Test.YtcodpdpeklammaaGreatDoorGA5
import Derived.Test.YtcodpdpeklammaaGreatDoorGA4
namespace Go.Proofs.YtcodpdpeklammaaGreatDoor
set_option linter.unusedVariables false
set_option linter.unusedSimpArgs false
open Go Go.RowKit
variable {B : Nat}
set_option maxRecDepth 100000 in
set_option maxHeartbeats 2000000 in
theorem input_t (g : Nat) (v : Value) (l : List Int) (w : World) (h : RdAt B w g v 0 l) (hB : B ≤ w.heap.size) (hg : g < w.heap.size) :
    Calls Tryz.prog 105 #[rdV g] w (ReadT B rdIn (encIn w.heap.size) g l w) := by
  have HBG := Lib.hid (And.intro hB hg)
  have HH := Lib.hid h
  clear h
  unfold rdV
  go_enter Tryz.func105, Tryz.ntmps105
  go_upto_region 2 with (fail)
  refine wp_rows3b (fun W0 hk hr1 hr2 hb3 hsz => ?_)
  simp only at hr1 hr2 hb3
  obtain ⟨p, hp⟩ : ∃ p, p = w.heap.size := ⟨_, rfl⟩
  rw [← hp] at hr1 hr2 hb3 hsz ⊢
  have HP := Lib.hid hp; have HSZ := Lib.hid hsz
  have c0 : W0.cell? ⟨p, 0, none⟩ = some (.pointer (some ⟨g, 0, none⟩)) := by have := (hr1 0 _ rfl).1; simpa using this
  have HRD := Lib.hid (HH.out.keeps hk)
  have HK := Lib.hid hk; have HR1 := Lib.hid hr1
  have HR2 := Lib.hid (show Row W0 (p + 1) 0 zeroIn from hr2)
  have HB3 := Lib.hid (show Blk W0 (p + 1 + 1) zeroIn 100 from hb3)
  have HC0 := Lib.hid c0
  have hgp : g < p := by omega
  clear hk hr1 hr2 hb3 hp hsz hB hg c0
  have HGP := Lib.hid hgp
  refine wp_region_head (S := fun W => Hid ((fun W => W.cell? ⟨p, 0, none⟩ = some (.pointer (some ⟨g, 0, none⟩))) W)) 6 (by kernel_rfl) (by kernel_rfl) ?_ (fun hHeld => ?_)
  focus exact Lib.hid HC0.out
  refine wpAnyHL_take (i := 0) (oi := ?_) (v := ?_) ?_ ?_ ?_ ?_ ?_ ?_ ?_ ?_ ?_ (Or.inl ⟨?_, ?_⟩) ?_ ?_
  rotate_left 2
  focus (simp only [List.getElem?_toArray, List.getElem?_cons_succ, List.getElem?_cons_zero]; exact rfl)
  iterate 7 focus kernel_rfl
  focus (exact fun _ _ _ h => h)
  focus rfl
  focus ((intro wSw hSw; (have hSw := hSw.out); (try dsimp only at hSw); go_simp) <;> with_reducible rfl)
  focus assumption
  try simp only [Act.put, List.setIfInBounds_toArray, List.set_cons_zero, List.set_cons_succ]
  refine wpAnyHL_take (i := 1) (oi := ?_) (v := ?_) ?_ ?_ ?_ ?_ ?_ ?_ ?_ ?_ ?_ (Or.inl ⟨?_, ?_⟩) ?_ ?_
  rotate_left 2
  focus (simp only [List.getElem?_toArray, List.getElem?_cons_succ, List.getElem?_cons_zero]; exact rfl)
  iterate 7 focus kernel_rfl
  focus (exact fun _ _ _ h => h)
  focus rfl
  focus ((intro wSw hSw; (have hSw := hSw.out); (try dsimp only at hSw); go_simp) <;> with_reducible rfl)
  focus assumption
  try simp only [Act.put, List.setIfInBounds_toArray, List.set_cons_zero, List.set_cons_succ]
  refine wpAnyHL_take (i := 2) (oi := ?_) (v := ?_) ?_ ?_ ?_ ?_ ?_ ?_ ?_ ?_ ?_ (Or.inl ⟨?_, ?_⟩) ?_ ?_
  rotate_left 2
  focus (simp only [List.getElem?_toArray, List.getElem?_cons_succ, List.getElem?_cons_zero]; exact rfl)
  iterate 7 focus kernel_rfl
  focus (exact fun _ _ _ h => h)
  focus rfl
  focus ((intro wSw hSw; (have hSw := hSw.out); (try dsimp only at hSw); go_simp) <;> with_reducible rfl)
  focus assumption
  try simp only [Act.put, List.setIfInBounds_toArray, List.set_cons_zero, List.set_cons_succ]
  refine wpAnyHL_take (i := 3) (oi := ?_) (v := ?_) ?_ ?_ ?_ ?_ ?_ ?_ ?_ ?_ ?_ (Or.inl ⟨?_, ?_⟩) ?_ ?_
  rotate_left 2
  focus (simp only [List.getElem?_toArray, List.getElem?_cons_succ, List.getElem?_cons_zero]; exact rfl)
  iterate 7 focus kernel_rfl
  focus (exact fun _ _ _ h => h)
  focus rfl
  focus ((intro wSw hSw; (have hSw := hSw.out); (try dsimp only at hSw); go_simp) <;> with_reducible rfl)
  focus assumption
  try simp only [Act.put, List.setIfInBounds_toArray, List.set_cons_zero, List.set_cons_succ]
  refine wpAnyHL_take (i := 4) (oi := ?_) (v := ?_) ?_ ?_ ?_ ?_ ?_ ?_ ?_ ?_ ?_ (Or.inl ⟨?_, ?_⟩) ?_ ?_
  rotate_left 2
  focus (simp only [List.getElem?_toArray, List.getElem?_cons_succ, List.getElem?_cons_zero]; exact rfl)
  iterate 7 focus kernel_rfl
  focus (exact fun _ _ _ h => h)
  focus rfl
  focus ((intro wSw hSw; (have hSw := hSw.out); (try dsimp only at hSw); go_simp) <;> with_reducible rfl)
  focus assumption
  try simp only [Act.put, List.setIfInBounds_toArray, List.set_cons_zero, List.set_cons_succ]
  refine wpAnyHL_one (i := 5) (o := ?_) (by kernel_rfl) (by kernel_rfl) ?_ ?_
  rotate_left 1
  focus (simp only [List.getElem?_toArray, List.getElem?_cons_succ, List.getElem?_cons_zero]; exact rfl)
  go_wp2_with (go_at_call 57; refine (raw_s g v 0 l 32 (by omega) W0.drew (HRD.out.keeps (keeps_drew (Keeps.refl _))) (by have := HBG.out.1; have := HP.out; have := HSZ.out; have e : W0.drew.heap.size = W0.heap.size := rfl; omega) (by have := HGP.out; have := HSZ.out; have e : W0.drew.heap.size = W0.heap.size := rfl; omega)).mono ?_; rintro r W1 hraw; obtain ⟨hc1, a1, n1, c1, xs, v1, e1, l1, rfl, hrd1, hn1, hra1, hst1, hnk⟩ := hraw; have HCH1 := Lib.hid hc1; have HRD1 := Lib.hid hrd1; have HRA1 := Lib.hid hra1; have HST1 := Lib.hid hst1; have HNK := Lib.hid hnk; clear hc1 hrd1 hra1 hst1 hnk)
  try dsimp only [StepQ]
  refine ⟨?_, fun hHeld => ?_⟩
  focus (exact Lib.hid ((((HR1.out.drew).chg HCH1.out (by have := HGP.out; omega)) 0 _ rfl).1))
  try simp only [Act.put, List.setIfInBounds_toArray, List.set_cons_zero, List.set_cons_succ]
  refine wpAnyHL_done (by kernel_rfl) ?_
  try simp only [List.drop_succ_cons, List.drop_zero]
  have hb1 : Blk W1 (p + 1 + 1) zeroIn 100 := (HB3.out.keeps (keeps_drew (Keeps.refl _))).chg HCH1.out (by have := HGP.out; omega)
  have HB1 := Lib.hid hb1
  clear hb1 hHeld
  go_upto_region 3 with (refine wpList_copy_blk rfl (.tmp 6) (.tmp 9) rfl (p + 1 + 1) 0 32 32 rfl _ n1 _ rfl hn1 zeroIn 100 HB1.out (by have : zeroIn.length = 36 := rfl; omega) (xs.map (Value.int .u8)) HRD1.out (int_oneCell xs) ?_; intro W2 hb2 hc2; have HB2 := Lib.hid hb2; have HC2 := Lib.hid hc2; clear hb2 hc2)
  have hch2 : Chg (· = g) w W2 := chg_then (((HK.out.trans (keeps_drew (Keeps.refl _))).chg _).trans HCH1.out) HC2.out (fun k hk => .inl (by have := HP.out; omega))
  have hin2 : InSt B p g W2 v1 e1 l1 (List.take 0 zeroIn ++ (xs.map (Value.int .u8) ++ zeroIn.drop (0 + n1))) := by
    have hg1 := HGP.out
    have hs : W0.heap.size ≤ W1.heap.size := HCH1.out.size
    have hs2 := HC2.out.size
    have hq : Chg (· = p + 1 + 1) W1 W2 := HC2.out
    have hz := HSZ.out
    refine ⟨((HR1.out.drew).chg HCH1.out (by omega)).chg hq (by omega), ((HR2.out.drew).chg HCH1.out (by omega)).chg hq (by omega), HB2.out.row, by omega, ⟨hg1, by have := HBG.out.1; have := HP.out; omega⟩, ?_⟩
    obtain ⟨x1, x2, x3, x4⟩ := HRA1.out
    have hB2 := HBG.out.1
    have hp2 := HP.out
    refine ⟨x1.chg hq (by omega), ?_, x3, x4⟩
    rcases x2 with x2 | ⟨b, off, cap, y1, y2, y3, y4, y5, y6⟩
    · exact .inl x2
    · exact .inr ⟨b, off, cap, y1, y2, y3, ⟨y4.1, Nat.le_trans y4.2 hq.size⟩, y5, y6.chg hq (by omega)⟩
  have HCH2 := Lib.hid hch2; have HIN2 := Lib.hid hin2
  clear hch2 hin2 HB2 HC2 HRD1 HRA1 HB1 HCH1 HRD HR1 HR2 HB3 HC0
  have c2 := HIN2.out.c0
  have hB2 : B ≤ W2.heap.size := by have := HIN2.out.gp; have := HIN2.out.lt; omega
  have hg2 : g < W2.heap.size := by have := HIN2.out.gp; have := HIN2.out.lt; omega
  by_cases he : e1 = 0
  · subst he
    obtain rfl : n1 = 32 := HNK.out rfl
    have htk : rdTake 32 l = .ok (xs, l1) := by
      rcases HST1.out with ⟨h, _⟩ | ⟨_, _, h⟩ | ⟨_, h, _⟩
      · exact absurd rfl h
      · exact h
      · exact absurd rfl h
    have hxl : xs.length = 32 := by obtain ⟨h3, rfl, _⟩ := rdTake_inv htk; simp; omega
    have HIN := Lib.hid (show InSt B p g W2 v1 0 l1 (inCells ⟨xs, 0, [], 0, []⟩ (.slice none 0 0) (.slice none 0 0)) by have := HIN2.out; rwa [zeroIn_copy] at this)
    have HTK := Lib.hid htk; have HXL := Lib.hid hxl
    clear htk hxl HIN2
    go_upto_region 4 with (go_at_call 99; refine (number_t g v1 l1 W2 HIN.out.rd hB2 hg2).mono ?_; rintro r W3 ⟨hc3, hcs⟩; have HC3 := Lib.hid hc3; clear hc3; rcases hcs with ⟨i3, val3, v3, l3, hp3, rfl, rfl, hr3⟩ | ⟨c3, hp3, rfl⟩; obtain ⟨⟨e32, f32⟩, -⟩ := row_free (HIN.out.next HC3.out hr3).loc HXL.out)
    rotate_left
    · exact ⟨rfl, HCH2.out.trans HC3.out, .inr ⟨c3, in_err2 HTK.out hp3, rfl⟩⟩
    have hi4 := (HIN.out.next HC3.out hr3).put 32 (by rw [inCells_length _ _ _ HXL.out]; omega) (.int .u32 i3)
    rw [inCells_set32 _ _ _ _ HXL.out] at hi4
    have hch4 := (HCH2.out.trans HC3.out).setCell (p := ⟨p + 1 + 1, 32, none⟩) (.inl (by have := HP.out; show w.heap.size ≤ p + 1 + 1; omega)) (.int .u32 i3)
    have HIN4 := Lib.hid hi4; have HCH4 := Lib.hid hch4; have HP3 := Lib.hid hp3
    clear e32 f32 hi4 hch4 hr3 hp3 c2 hB2 hg2 HIN HC3 HCH2
    generalize W3.setCell ⟨p + 1 + 1, 32, none⟩ (.int .u32 i3) = W4 at *
    have c4 := HIN4.out.c0
    have hB4 : B ≤ W4.heap.size := by have := HIN4.out.gp; have := HIN4.out.lt; omega
    have hg4 : g < W4.heap.size := by have := HIN4.out.gp; have := HIN4.out.lt; omega
    go_upto_region 5 with (go_at_call 109; refine (text_t g v3 l3 W4 HIN4.out.rd hB4 hg4).mono ?_; rintro r W5 ⟨hc5, hcs⟩; have HC5 := Lib.hid hc5; clear hc5; rcases hcs with ⟨s5, val5, v5, l5, hp5, rfl, hy5, hr5⟩ | ⟨c5, hp5, rfl⟩; obtain ⟨n51, n52, n53, rfl⟩ := byV.slice hy5; have HY5 := Lib.hid hy5; clear hy5; obtain ⟨-, ⟨e33, f33⟩, -⟩ := row_free (HIN4.out.next HC5.out hr5).loc HXL.out)
    rotate_left
    · exact ⟨rfl, HCH4.out.trans HC5.out, .inr ⟨c5, in_err3 HTK.out HP3.out hp5, rfl⟩⟩
    have hi6 := (HIN4.out.next HC5.out hr5).put 33 (by rw [inCells_length _ _ _ HXL.out]; omega) (.slice n51 n52 n53)
    rw [inCells_set33 _ _ _ _ s5 HXL.out] at hi6
    have hch6 := (HCH4.out.trans HC5.out).setCell (p := ⟨p + 1 + 1, 33, none⟩) (.inl (by have := HP.out; show w.heap.size ≤ p + 1 + 1; omega)) (.slice n51 n52 n53)
    have hy6 := HY5.out.set (p := ⟨p + 1 + 1, 33, none⟩) (by have := HIN4.out.lt; show p + 1 + 1 < W4.heap.size; omega) (.slice n51 n52 n53)
    have HIN6 := Lib.hid hi6; have HCH6 := Lib.hid hch6; have HP5 := Lib.hid hp5; have HY6 := Lib.hid (hy6.low (A' := p + 3) HIN4.out.lt)
    clear e33 f33 hi6 hch6 hr5 hp5 c4 hB4 hg4 HIN4 HC5 HCH4 hy6 HY5
    generalize W5.setCell ⟨p + 1 + 1, 33, none⟩ (.slice n51 n52 n53) = W6 at *
    have c6 := HIN6.out.c0
    have hB6 : B ≤ W6.heap.size := by have := HIN6.out.gp; have := HIN6.out.lt; omega
    have hg6 : g < W6.heap.size := by have := HIN6.out.gp; have := HIN6.out.lt; omega
    go_upto_region 6 with (go_at_call 99; refine (number_t g v5 l5 W6 HIN6.out.rd hB6 hg6).mono ?_; rintro r W7 ⟨hc7, hcs⟩; have HC7 := Lib.hid hc7; clear hc7; rcases hcs with ⟨i7, val7, v7, l7, hp7, rfl, rfl, hr7⟩ | ⟨c7, hp7, rfl⟩; obtain ⟨-, -, ⟨e34, f34⟩, -⟩ := row_free (HIN6.out.next HC7.out hr7).loc HXL.out)
    rotate_left
    · exact ⟨rfl, HCH6.out.trans HC7.out, .inr ⟨c7, in_err4 HTK.out HP3.out HP5.out hp7, rfl⟩⟩
    have hi8 := (HIN6.out.next HC7.out hr7).put 34 (by rw [inCells_length _ _ _ HXL.out]; omega) (.int .u32 i7)
    rw [inCells_set34 _ _ _ _ HXL.out] at hi8
    have hch8 := (HCH6.out.trans HC7.out).setCell (p := ⟨p + 1 + 1, 34, none⟩) (.inl (by have := HP.out; show w.heap.size ≤ p + 1 + 1; omega)) (.int .u32 i7)
    have hy8 := (HY6.out.chg HC7.out (fun b hb e => by have := HGP.out; omega)).set (p := ⟨p + 1 + 1, 34, none⟩) (by show p + 1 + 1 < p + 3; omega) (.int .u32 i7)
    have HIN8 := Lib.hid hi8; have HCH8 := Lib.hid hch8; have HP7 := Lib.hid hp7; have HY8 := Lib.hid hy8
    clear e34 f34 hi8 hch8 hr7 hp7 c6 hB6 hg6 HIN6 HC7 HCH6 hy8 HY6
    generalize W7.setCell ⟨p + 1 + 1, 34, none⟩ (.int .u32 i7) = W8 at *
    go_wp2_with (first | (refine wpList_load_at rfl 100 (.tmp 3) rfl (p + 1 + 1) 0 rfl _ _ HIN8.out.loc Tryz.underlying100 rfl (sz_in _ _ _ HXL.out) ?_) | (refine wpList_store_row rfl 100 (.tmp 2) (.tmp 21) rfl (p + 1) 0 rfl zeroIn (inCells ⟨xs, i3, s5, i7, []⟩ (.slice n51 n52 n53) (.slice none 0 0)) rfl HIN8.out.res (by rw [inCells_length _ _ _ HXL.out]; rfl) (sz_in _ _ _ HXL.out) (inCells_one _ _ _ rfl rfl) ?_; intro W9 hr9 hc9; have HR9 := Lib.hid hr9; have HC9 := Lib.hid hc9; clear hr9 hc9))
    refine bodyPost_ret (results_cell_at rfl _ _ (p + 1) 0 _ _ (by simp only [Act.put, List.setIfInBounds_toArray, List.set_cons_zero, List.set_cons_succ]; rfl) HR9.out Tryz.underlying100 rfl (sz_in _ _ _ HXL.out)) rfl ?_
    have hg9 := HGP.out
    have hp9 := HP.out
    have hc9 : Chg (· = p + 1) W8 W9 := HC9.out
    refine ⟨chg_then HCH8.out HC9.out (fun k hk => .inl (by omega)), .inl ⟨_, _, v7, l7, in_ok HTK.out HP3.out HP5.out HP7.out, rfl, ⟨_, rfl, (HY8.out.chg hc9 (fun b hb e => by omega)).low (by omega)⟩, ?_⟩⟩
    obtain ⟨x1, x2, x3, x4⟩ := HIN8.out.rd
    have hgp8 := HIN8.out.gp
    refine ⟨x1.chg hc9 (by omega), ?_, x3, x4⟩
    rcases x2 with x2 | ⟨b, off, cap, y1, y2, y3, y4, y5, y6⟩
    · exact .inl x2
    · exact .inr ⟨b, off, cap, y1, y2, y3, ⟨y4.1, Nat.le_trans y4.2 hc9.size⟩, y5, y6.chg hc9 (by omega)⟩
  · have herr : rdTake 32 l = .error e1 := by
      rcases HST1.out with ⟨h, _⟩ | ⟨_, h, _⟩ | ⟨_, _, h, _⟩
      · exact absurd rfl h
      · exact absurd h he
      · exact h
    have HRX := Lib.hid HIN2.out.rd
    go_wp2_with (go_at_call 99; refine (number_e g v1 e1 he l1 W2 HRX.out hB2 hg2).mono ?_; rintro r W3 ⟨rfl, hc3⟩)
    exact ⟨rfl, HCH2.out.trans hc3, .inr ⟨e1, in_err1 herr, rfl⟩⟩
end Go.Proofs.YtcodpdpeklammaaGreatDoor
namespace Go.Proofs.YtcodpdpeklammaaGreatDoor
set_option linter.unusedVariables false
set_option linter.unusedSimpArgs false
open Go Go.RowKit
theorem OwnI.after2 {S T S1 T1 : Nat → Prop} {X : Nat → Prop} {base : Nat} {W W1 w2 : World} {v v' sv wv : Value} {l : List InD} {cs : List Value} {ps : List (Value × Value)} {d : InD} (h : OwnI S T base W v l cs ps) (hb0 : base ≤ W.heap.size) (hk : Chg X W W1) (hx : ∀ k, X k → k < base ∨ W.heap.size ≤ k)
    (hd : RIn S1 T1 W1 sv wv d) (h1 : ∀ g, S1 g ∨ T1 g → W.heap.size ≤ g ∧ g < W1.heap.size) (hdj : ∀ g, S1 g → ¬ T1 g)
    (hb : Buf w2 36 v' (l.length + 1) (cs ++ inCells d sv wv)) (hc : Chg (fun k => v.ownBlock = some k) W1 w2) (hs : SameOrNew W1 v v') :
    OwnI (fun g => S g ∨ S1 g) (fun g => T g ∨ T1 g) base w2 v' (l ++ [d]) (cs ++ inCells d sv wv) (ps ++ [(sv, wv)]) := by
  have hw := hk.size
  have hvl : ∀ g, v.ownBlock = some g → g < W.heap.size := fun g e => h.buf.lt e
  have hv' : ∀ g, g < W1.heap.size → v.ownBlock ≠ some g → v'.ownBlock ≠ some g := fun g h1 h2 => by
    rcases hs with e | ⟨g', e1, e2⟩
    · rw [e]; exact h2
    · rw [e1]; intro e; cases e; omega
  have hcl : cs.length = l.length * 36 := h.buf.1
  refine ⟨by rw [List.length_append]; exact hb, ?_, by simp [h.plen], ?_, ?_, ?_, ?_, ?_⟩
  · intro g hg
    rcases hs with e | ⟨g', e1, e2⟩
    · exact h.new g (by rw [← e]; exact hg)
    · rw [hg] at e1; cases e1; omega
  · intro i p d' hp hd'
    by_cases hi : i < l.length
    · have hip : i < ps.length := by rw [h.plen]; exact hi
      rw [List.getElem?_append_left hip] at hp
      rw [List.getElem?_append_left hi] at hd'
      obtain ⟨e1, e2⟩ := h.each i p d' hp hd'
      refine ⟨((e1.chg hk (fun k hk' hxk => by have := h.fresh k (.inl hk'); have := hx k hxk; omega) (fun k hk' hxk => by have := h.fresh k (.inr hk'); have := hx k hxk; omega)).chg hc (fun g hg e => (h.fresh g (.inl hg)).2.2 e) (fun g hg e => (h.fresh g (.inr hg)).2.2 e)).mono (fun _ => .inl) (fun _ => .inl), ?_⟩
      rw [← e2, List.drop_append_of_le_length (by omega), List.take_append_of_le_length (by simp; omega)]
    · have hi' : i = l.length := by
        have := (List.getElem?_eq_some_iff.1 hd').1
        simp at this; omega
      subst hi'
      rw [List.getElem?_append_right (by rw [h.plen]; exact Nat.le_refl _), h.plen] at hp
      rw [List.getElem?_append_right (Nat.le_refl _)] at hd'
      simp at hp hd'
      subst hp hd'
      refine ⟨(hd.chg hc (fun g hg e => by have h2 := h1 g (.inl hg); have := hvl g e; omega) (fun g hg e => by have h2 := h1 g (.inr hg); have := hvl g e; omega)).mono (fun _ => .inr) (fun _ => .inr), ?_⟩
      rw [List.drop_append, List.drop_eq_nil_of_le (by omega), hcl, Nat.sub_self, List.drop_zero, List.nil_append, List.take_of_length_le]
      rw [inCells_length _ _ _ hd.ok.hashLen]; exact Nat.le_refl _
  · intro g hg
    have hcs := hc.size
    rcases hg with (hg | hg) | (hg | hg)
    · have h2 := h.fresh g (.inl hg); exact ⟨h2.1, by omega, hv' g (by omega) h2.2.2⟩
    · have h2 := h1 g (.inl hg); exact ⟨by omega, by omega, hv' g h2.2 (fun e => by have := hvl g e; omega)⟩
    · have h2 := h.fresh g (.inr hg); exact ⟨h2.1, by omega, hv' g (by omega) h2.2.2⟩
    · have h2 := h1 g (.inr hg); exact ⟨by omega, by omega, hv' g h2.2 (fun e => by have := hvl g e; omega)⟩
  · intro g hg ht
    rcases hg with hg | hg <;> rcases ht with ht | ht
    · exact h.disj g hg ht
    · have h2 := h.fresh g (.inl hg); have h3 := h1 g (.inr ht); omega
    · have h2 := h.fresh g (.inr ht); have h3 := h1 g (.inl hg); omega
    · exact hdj g hg ht
  · intro u hu
    rcases List.mem_append.1 hu with hu | hu
    · exact h.one u hu
    · exact inCells_one d sv wv hd.script.one hd.wit.one u hu
  · have old : ∀ (i : Nat) (p : Value × Value), ps[i]? = some p → ∀ g, p.2.ownBlock = some g → g < W.heap.size := fun i p hp g e => by
      have hi : i < l.length := by rw [← h.plen]; exact (List.getElem?_eq_some_iff.1 hp).1
      exact (h.fresh g (.inr ((h.each i p l[i] hp (List.getElem?_eq_getElem hi)).1.wit.foot g e))).2.1
    have new : ∀ g, wv.ownBlock = some g → W.heap.size ≤ g := fun g e => (h1 g (.inr (hd.wit.foot g e))).1
    intro i k p q hik hp hq g e e2
    have cases2 : ∀ (m : Nat) (x : Value × Value), (ps ++ [(sv, wv)])[m]? = some x → (m < ps.length ∧ ps[m]? = some x) ∨ (m = ps.length ∧ x = (sv, wv)) := fun m x hx => by
      by_cases hm : m < ps.length
      · rw [List.getElem?_append_left hm] at hx; exact .inl ⟨hm, hx⟩
      · have hm2 := (List.getElem?_eq_some_iff.1 hx).1
        simp at hm2
        obtain rfl : m = ps.length := by omega
        rw [List.getElem?_append_right (Nat.le_refl _)] at hx
        simp at hx
        exact .inr ⟨rfl, hx.symm⟩
    rcases cases2 i p hp with ⟨_, a1⟩ | ⟨a0, rfl⟩ <;> rcases cases2 k q hq with ⟨_, b1⟩ | ⟨b0, rfl⟩
    · exact h.apart i k p q hik a1 b1 g e e2
    · have h3 := old i p a1 g e; have h4 := new g e2; omega
    · have h3 := old k q b1 g e2; have h4 := new g e; omega
    · omega
theorem owni_append2 {S T S1 T1 : Nat → Prop} {X : Nat → Prop} {base : Nat} {W W1 : World} {ops : Array Oper} {rest : List Oper} {o : Oper} {a : Act} {Q : Exit → Act → World → Prop} (hgd : o.guard = none) (s x : Operand)
    (ho : o.op = .call { callee := .builtin .append, args := #[s, x], argTypes := #[43, 43] }) {v sv wv : Value} {l : List InD} {cs : List Value} {ps : List (Value × Value)} {d : InD} (hO : OwnI S T base W v l cs ps) (hb0 : base ≤ W.heap.size) (hk : Chg X W W1) (hxb : ∀ k, X k → k < base ∨ W.heap.size ≤ k)
    (hd : RIn S1 T1 W1 sv wv d) (h1 : ∀ g, S1 g ∨ T1 g → W.heap.size ≤ g ∧ g < W1.heap.size) (hdj : ∀ g, S1 g → ¬ T1 g) (hv : a.eval s = v)
    (c : Nat) (TT : TypeId) (cells : Array Value) (hcells : cells = (inCells d sv wv).toArray) (hx : a.eval x = .slice (some ⟨W1.heap.size, 0, none⟩) 1 c) (hn : (l.length + 1) * 96 ≤ 140737488355328)
    (h : ∀ v' w', OwnI (fun g => S g ∨ S1 g) (fun g => T g ∨ T1 g) base w' v' (l ++ [d]) (cs ++ inCells d sv wv) (ps ++ [(sv, wv)]) → Chg (fun k => v.ownBlock = some k) (W1.alloc (.cells cells TT)) w' → SameOrNew (W1.alloc (.cells cells TT)) v v' → wpList Tryz.prog ops Q rest (a.put o.dst v') w') : wpList Tryz.prog ops Q (o :: rest) a (W1.alloc (.cells cells TT)) := by
  subst hcells
  obtain ⟨i0, z0, hi, hz0, hz1, hz2, hz3⟩ := info2_any in_info in_zero
  have hk2 : Keeps W1 (W1.alloc (.cells (inCells d sv wv).toArray TT)) := keeps_alloc (Keeps.refl _) _
  have hlen := inCells_length d sv wv hd.ok.hashLen
  refine wpList_append_buf hgd s x 43 43 ho 100 i0 z0 36 96 Tryz.underlying43 hi hz0 hz1 hz2 hz3 (by decide) v l.length cs hv (hO.buf.chg (hk.trans (hk2.chg _)) (fun k e hxk => by have := hO.new k e; have := hO.buf.lt e; have := hxb k hxk; omega)) _ hx 1 (inCells d sv wv)
    (Src.row Tryz.underlying43 (by rw [hlen]) (Row.new (inCells d sv wv) _ TT rfl) (inCells_one d sv wv hd.script.one hd.wit.one)) (by unfold maxLen; omega) hn
    (fun v' w' hb hc hs' _ => h v' w' (hO.after2 hb0 (hk.trans (hk2.chg _)) hxb (hd.keeps hk2) (fun g hg => ⟨(h1 g hg).1, Nat.lt_of_lt_of_le (h1 g hg).2 hk2.size⟩) hdj hb hc hs') hc hs')
theorem OwnO.after2 {S S1 : Nat → Prop} {X : Nat → Prop} {base : Nat} {W W1 w2 : World} {v v' sv : Value} {l : List OutD} {cs : List Value} {ps : List Value} {d : OutD} (h : OwnO S base W v l cs ps) (hb0 : base ≤ W.heap.size) (hk : Chg X W W1) (hx : ∀ k, X k → k < base ∨ W.heap.size ≤ k)
    (hd : RB S1 W1 sv d.script) (hv0 : I64 d.value) (h1 : ∀ g, S1 g → W.heap.size ≤ g ∧ g < W1.heap.size)
    (hb : Buf w2 2 v' (l.length + 1) (cs ++ outCells d sv)) (hc : Chg (fun k => v.ownBlock = some k) W1 w2) (hs : SameOrNew W1 v v') :
    OwnO (fun g => S g ∨ S1 g) base w2 v' (l ++ [d]) (cs ++ outCells d sv) (ps ++ [sv]) := by
  have hw := hk.size
  have hvl : ∀ g, v.ownBlock = some g → g < W.heap.size := fun g e => h.buf.lt e
  have hv' : ∀ g, g < W1.heap.size → v.ownBlock ≠ some g → v'.ownBlock ≠ some g := fun g h1 h2 => by
    rcases hs with e | ⟨g', e1, e2⟩
    · rw [e]; exact h2
    · rw [e1]; intro e; cases e; omega
  have hcl : cs.length = l.length * 2 := h.buf.1
  refine ⟨by rw [List.length_append]; exact hb, ?_, by simp [h.plen], ?_, ?_, ?_⟩
  · intro g hg
    rcases hs with e | ⟨g', e1, e2⟩
    · exact h.new g (by rw [← e]; exact hg)
    · rw [hg] at e1; cases e1; omega
  · intro i p d' hp hd'
    by_cases hi : i < l.length
    · have hip : i < ps.length := by rw [h.plen]; exact hi
      rw [List.getElem?_append_left hip] at hp
      rw [List.getElem?_append_left hi] at hd'
      obtain ⟨e1, e3, e2⟩ := h.each i p d' hp hd'
      refine ⟨((e1.chg hk (fun k hk' hxk => by have := h.fresh k hk'; have := hx k hxk; omega)).chg hc (fun g hg e => (h.fresh g hg).2.2 e)).mono (fun _ => .inl), e3, ?_⟩
      rw [← e2, List.drop_append_of_le_length (by omega), List.take_append_of_le_length (by simp; omega)]
    · have hi' : i = l.length := by
        have := (List.getElem?_eq_some_iff.1 hd').1
        simp at this; omega
      subst hi'
      rw [List.getElem?_append_right (by rw [h.plen]; exact Nat.le_refl _), h.plen] at hp
      rw [List.getElem?_append_right (Nat.le_refl _)] at hd'
      simp at hp hd'
      subst hp hd'
      refine ⟨(hd.chg hc (fun g hg e => by have h2 := h1 g hg; have := hvl g e; omega)).mono (fun _ => .inr), hv0, ?_⟩
      rw [List.drop_append, List.drop_eq_nil_of_le (by omega), hcl, Nat.sub_self, List.drop_zero, List.nil_append, List.take_of_length_le]
      exact Nat.le_refl _
  · intro g hg
    have hcs := hc.size
    rcases hg with hg | hg
    · have h2 := h.fresh g hg; exact ⟨h2.1, by omega, hv' g (by omega) h2.2.2⟩
    · have h2 := h1 g hg; exact ⟨by omega, by omega, hv' g h2.2 (fun e => by have := hvl g e; omega)⟩
  · intro u hu
    rcases List.mem_append.1 hu with hu | hu
    · exact h.one u hu
    · exact outCells_one d sv hd.one u hu
theorem owno_append2 {S S1 : Nat → Prop} {X : Nat → Prop} {base : Nat} {W W1 : World} {ops : Array Oper} {rest : List Oper} {o : Oper} {a : Act} {Q : Exit → Act → World → Prop} (hgd : o.guard = none) (s x : Operand)
    (ho : o.op = .call { callee := .builtin .append, args := #[s, x], argTypes := #[44, 44] }) {v sv : Value} {l : List OutD} {cs : List Value} {ps : List Value} {d : OutD} (hO : OwnO S base W v l cs ps) (hb0 : base ≤ W.heap.size) (hk : Chg X W W1) (hxb : ∀ k, X k → k < base ∨ W.heap.size ≤ k)
    (hd : RB S1 W1 sv d.script) (hv0 : I64 d.value) (h1 : ∀ g, S1 g → W.heap.size ≤ g ∧ g < W1.heap.size) (hv : a.eval s = v)
    (c : Nat) (TT : TypeId) (cells : Array Value) (hcells : cells = (outCells d sv).toArray) (hx : a.eval x = .slice (some ⟨W1.heap.size, 0, none⟩) 1 c) (hn : (l.length + 1) * 32 ≤ 140737488355328)
    (h : ∀ v' w', OwnO (fun g => S g ∨ S1 g) base w' v' (l ++ [d]) (cs ++ outCells d sv) (ps ++ [sv]) → Chg (fun k => v.ownBlock = some k) (W1.alloc (.cells cells TT)) w' → SameOrNew (W1.alloc (.cells cells TT)) v v' → wpList Tryz.prog ops Q rest (a.put o.dst v') w') : wpList Tryz.prog ops Q (o :: rest) a (W1.alloc (.cells cells TT)) := by
  subst hcells
  obtain ⟨i0, z0, hi, hz0, hz1, hz2, hz3⟩ := info2_any out_info out_zero
  have hk2 : Keeps W1 (W1.alloc (.cells (outCells d sv).toArray TT)) := keeps_alloc (Keeps.refl _) _
  refine wpList_append_buf hgd s x 44 44 ho 102 i0 z0 2 32 Tryz.underlying44 hi hz0 hz1 hz2 hz3 (by decide) v l.length cs hv (hO.buf.chg (hk.trans (hk2.chg _)) (fun k e hxk => by have := hO.new k e; have := hO.buf.lt e; have := hxb k hxk; omega)) _ hx 1 (outCells d sv)
    (Src.row Tryz.underlying44 rfl (Row.new (outCells d sv) _ TT rfl) (outCells_one d sv hd.one)) (by unfold maxLen; omega) hn
    (fun v' w' hb hc hs' _ => h v' w' (hO.after2 hb0 (hk.trans (hk2.chg _)) hxb (hd.keeps hk2) hv0 (fun g hg => ⟨(h1 g hg).1, Nat.lt_of_lt_of_le (h1 g hg).2 hk2.size⟩) hb hc hs') hc hs')
/-- a list of slices of bytes of one's own, in blocks from base on -/
structure OwnLL (base : Nat) (W : World) (v : Value) (ls : List (List Int)) (vs : List Value) : Prop where
  buf : Buf W 1 v ls.length vs
  new : ∀ g, v.ownBlock = some g → base ≤ g
  each : ∀ (i : Nat) (u : Value) (l : List Int), vs[i]? = some u → ls[i]? = some l → RB (fun g => base ≤ g ∧ g < W.heap.size ∧ v.ownBlock ≠ some g) W u l
  one : ∀ u ∈ vs, u.oneCell' = true
theorem OwnLL.nil (base : Nat) (W : World) : OwnLL base W (.slice none 0 0) [] [] := ⟨Buf.nil _ _, fun g h => by simp [Value.ownBlock] at h, fun i u l h => by simp at h, fun u h => by simp at h⟩
theorem OwnLL.any {base : Nat} {W : World} {v : Value} {ls : List (List Int)} {vs : List Value} (h : OwnLL base W v ls vs) : ∃ a cap, v = .slice a ls.length cap := by
  obtain ⟨a, cap, h1, _⟩ := h.buf.any
  exact ⟨a, cap, h1⟩
theorem OwnLL.chg {X : Nat → Prop} {base : Nat} {W W' : World} {v : Value} {ls : List (List Int)} {vs : List Value} (h : OwnLL base W v ls vs) (hc : Chg X W W') (hx : ∀ g, X g → g < base ∨ W.heap.size ≤ g) : OwnLL base W' v ls vs :=
  have hb : ∀ g, v.ownBlock = some g → g < W.heap.size := fun g e => h.buf.lt e
  ⟨h.buf.chg hc (fun g e hxg => by have h1 := h.new g e; have h2 := hb g e; have := hx g hxg; omega), h.new,
    fun i u l hu hl => ((h.each i u l hu hl).chg hc (fun g hg hxg => by have := hx g hxg; have := hg.1; have := hg.2.1; omega)).mono (fun g hg => ⟨hg.1, Nat.lt_of_lt_of_le hg.2.1 hc.size, hg.2.2⟩), h.one⟩
theorem OwnLL.keeps {base : Nat} {W W' : World} {v : Value} {ls : List (List Int)} {vs : List Value} (h : OwnLL base W v ls vs) (hk : Keeps W W') : OwnLL base W' v ls vs := h.chg (hk.chg (fun _ => False)) (fun _ h => h.elim)
theorem OwnLL.low {base b : Nat} {W : World} {v : Value} {ls : List (List Int)} {vs : List Value} (h : OwnLL base W v ls vs) (hb : b ≤ base) : OwnLL b W v ls vs :=
  ⟨h.buf, fun g e => Nat.le_trans hb (h.new g e), fun i u l hu hl => (h.each i u l hu hl).mono (fun g hg => ⟨Nat.le_trans hb hg.1, hg.2⟩), h.one⟩
theorem OwnLL.after {X : Nat → Prop} {base : Nat} {W W1 w2 : World} {v v' u : Value} {ls : List (List Int)} {vs : List Value} {l : List Int} (h : OwnLL base W v ls vs) (hb0 : base ≤ W.heap.size) (hk : Chg X W W1) (hx0 : ∀ k, X k → k < base ∨ W.heap.size ≤ k) (hu : RB (fun g => W.heap.size ≤ g ∧ g < W1.heap.size) W1 u l)
    (hb : Buf w2 1 v' (ls.length + 1) (vs ++ [u])) (hc : Chg (fun k => v.ownBlock = some k) W1 w2) (hs : SameOrNew W1 v v') : OwnLL base w2 v' (ls ++ [l]) (vs ++ [u]) := by
  have hv' : ∀ g, g < W1.heap.size → v.ownBlock ≠ some g → v'.ownBlock ≠ some g := fun g h1 h2 => by
    rcases hs with e | ⟨g', e1, e2⟩
    · rw [e]; exact h2
    · rw [e1]; intro e; cases e; omega
  have hvl : ∀ g, v.ownBlock = some g → g < W.heap.size := fun g e => h.buf.lt e
  have hw := hk.size
  refine ⟨by rw [List.length_append]; exact hb, ?_, ?_, ?_⟩
  · intro g hg
    rcases hs with e | ⟨g', e1, e2⟩
    · exact h.new g (by rw [← e]; exact hg)
    · rw [hg] at e1; cases e1; omega
  · intro i x l' hx hl'
    have hlen : vs.length = ls.length := by have := h.buf.1; omega
    by_cases hi : i < vs.length
    · rw [List.getElem?_append_left hi] at hx
      rw [List.getElem?_append_left (by omega)] at hl'
      refine (((h.each i x l' hx hl').chg hk (fun k hk' hxk => by have := hk'.1; have := hk'.2.1; have := hx0 k hxk; omega)).chg hc (fun g hg => hg.2.2)).mono (fun g hg => ⟨hg.1, by have := hc.size; omega, hv' g (by omega) hg.2.2⟩)
    · have hi' : i = vs.length := by
        have := (List.getElem?_eq_some_iff.1 hx).1
        simp at this; omega
      subst hi'
      rw [List.getElem?_append_right (Nat.le_refl _)] at hx
      rw [hlen, List.getElem?_append_right (Nat.le_refl _)] at hl'
      simp at hx hl'
      subst hx hl'
      refine (hu.chg hc (fun g hg e => by have := hvl g e; omega)).mono (fun g hg => ⟨by omega, by have := hc.size; omega, hv' g hg.2 (fun e => by have := hvl g e; omega)⟩)
  · intro x hx
    rcases List.mem_append.1 hx with hx | hx
    · exact h.one x hx
    · simp at hx; subst hx; exact hu.one
theorem ownl_append2 {X : Nat → Prop} {base : Nat} {W W1 : World} {ops : Array Oper} {rest : List Oper} {o : Oper} {a : Act} {Q : Exit → Act → World → Prop} (hgd : o.guard = none) (s x : Operand)
    (ho : o.op = .call { callee := .builtin .append, args := #[s, x], argTypes := #[98, 98] }) {v u : Value} {ls : List (List Int)} {vs : List Value} {l : List Int} (hO : OwnLL base W v ls vs) (hb0 : base ≤ W.heap.size) (hk : Chg X W W1) (hxb : ∀ k, X k → k < base ∨ W.heap.size ≤ k) (hu : RB (fun g => W.heap.size ≤ g ∧ g < W1.heap.size) W1 u l) (hv : a.eval s = v)
    (c : Nat) (T : TypeId) (hx : a.eval x = .slice (some ⟨W1.heap.size, 0, none⟩) 1 c) (hn : (ls.length + 1) * 24 ≤ 140737488355328)
    (h : ∀ v' w', OwnLL base w' v' (ls ++ [l]) (vs ++ [u]) → Chg (fun k => v.ownBlock = some k) (W1.alloc (.cells #[u] T)) w' → wpList Tryz.prog ops Q rest (a.put o.dst v') w') : wpList Tryz.prog ops Q (o :: rest) a (W1.alloc (.cells #[u] T)) := by
  obtain ⟨i0, hi, hz0, hz1, hz2⟩ := info_any sl_info
  have hk2 : Keeps W1 (W1.alloc (.cells #[u] T)) := (Keeps.refl _).alloc (Nat.le_refl _) _
  refine wpList_append_buf hgd s x 98 98 ho 32 i0 (.slice none 0 0) 1 24 Tryz.underlying98 hi hz0 hz1 hz2 rfl (by decide) v ls.length vs hv (hO.buf.chg (hk.trans (hk2.chg _)) (fun k e hxk => by have := hO.new k e; have := hO.buf.lt e; have := hxb k hxk; omega)) _ hx 1 [u]
    (Src.row Tryz.underlying98 (by simp) (Row.new [u] _ T rfl) (fun y hy => by simp at hy; subst hy; exact hu.one)) (by unfold maxLen; omega) hn
    (fun v' w' hb hc hs' _ => h v' w' (hO.after hb0 (hk.trans (hk2.chg _)) hxb ((hu.keeps hk2).mono (fun g hg => ⟨hg.1, by have := hk2.size; omega⟩)) hb hc hs') hc)
theorem OwnLL.rl {base : Nat} {W : World} {v : Value} {ls : List (List Int)} {vs : List Value} (h : OwnLL base W v ls vs) (hl : ls.length * 24 ≤ 140737488355328) :
    RL (fun g => base ≤ g ∧ g < W.heap.size ∧ v.ownBlock ≠ some g) (fun g => base ≤ g ∧ g < W.heap.size ∧ v.ownBlock = some g) W v ls vs :=
  ⟨h.buf.rd, h.each, hl, fun g e => ⟨h.new g e, h.buf.lt e, e⟩⟩
variable {B : Nat}
theorem input_run (args : Array Value) (W : World) : (callFunc 105 args).run Tryz.prog W = .ok (.enter 105 args) W := by simp [go_sem]
theorem output_run (args : Array Value) (W : World) : (callFunc 107 args).run Tryz.prog W = .ok (.enter 107 args) W := by simp [go_sem]
theorem text_run (args : Array Value) (W : World) : (callFunc 109 args).run Tryz.prog W = .ok (.enter 109 args) W := by simp [go_sem]
/-- a list of inputs that was read -/
def encIns (A : Nat) (W : World) (l : List InD) (v : Value) : Prop := ∃ S T cs ps, OwnI S T A W v l cs ps
def encOuts (A : Nat) (W : World) (l : List OutD) (v : Value) : Prop := ∃ S cs ps, OwnO S A W v l cs ps
def encTexts (A : Nat) (W : World) (l : List (List Int)) (v : Value) : Prop := ∃ vs, OwnLL A W v l vs
/-- where a loop stands -/
def ListSt (B : Nat) {α : Type} (p : Rdr α) (enc : Nat → World → List α → Value → Prop) (g : Nat) (l : List Int) (w W : World) (i : Nat) (v : Value) : Prop :=
  ∃ xs v' l', Chg (· = g) w W ∧ rdMany p i l = .ok (xs, l') ∧ RdAt B W g v' 0 l' ∧ enc w.heap.size W xs v
theorem RdAt.far {W W' : World} {g : Nat} {v : Value} {e : Int} {l : List Int} {X : Nat → Prop} (h : RdAt B W g v e l) (hc : Chg X W W') (hx : ∀ k, X k → B ≤ k) (hg : ¬ X g) : RdAt B W' g v e l := by
  obtain ⟨x1, x2, x3, x4⟩ := h
  refine ⟨x1.chg hc hg, ?_, x3, x4⟩
  rcases x2 with x2 | ⟨b, off, cap, y1, y2, y3, y4, y5, y6⟩
  · exact .inl x2
  · exact .inr ⟨b, off, cap, y1, y2, y3, ⟨y4.1, Nat.le_trans y4.2 hc.size⟩, y5, y6.chg hc (fun e => by have := hx b e; omega)⟩
theorem byV.rb {A : Nat} {W : World} {x : List Int} {v : Value} (h : byV A W x v) (hb : Bytes x) (hl : x.length ≤ 140737488355328) : RB (fun k => A ≤ k ∧ k < W.heap.size) W v x :=
  ⟨h.1.rd, hb, hl, fun g e => ⟨h.2 g e, h.1.lt e⟩⟩
theorem nil_rll (W : World) : RLL NoneB NoneB W (.slice none 0 0) [] := ⟨[], (Buf.nil W 1).rd, fun i u l h => by simp at h, by simp, fun g h => by simp [Value.ownBlock] at h⟩
set_option maxRecDepth 100000 in
set_option maxHeartbeats 2000000 in
theorem list_in_gen (f : Nat) (x : Value) (hrun : ∀ args W, (callFunc f args).run Tryz.prog W = .ok (.enter f args) W) (g : Nat) (hf : ∀ v l W, RdAt B W g v 0 l → B ≤ W.heap.size → g < W.heap.size → Calls Tryz.prog f #[x] W (ReadT B rdIn (encIn W.heap.size) g l W))
    (v : Value) (l : List Int) (n : Nat) (hn : n ≤ 25000) (w : World) (h : RdAt B w g v 0 l) (hB : B ≤ w.heap.size) (hg : g < w.heap.size) :
    Calls Tryz.prog 104 #[.int .i64 n, .func (.func f) #[x] #[]] w (ReadT B (rdMany rdIn n) (encIns w.heap.size) g l w) := by
  have HBG := Lib.hid (And.intro hB hg)
  have HH := Lib.hid h
  have HF := Lib.hid hf
  clear h hB hg hf
  go_enter Tryz.func104, Tryz.ntmps104
  go_wp2
  go_loopw [5, 7] (fun vv c wr => ∃ i : Nat, i ≤ n ∧ c = .int .i64 i ∧ ListSt B rdIn encIns g l w wr i vv) (fun _ c _ => (n - intOf c).toNat)
  case atStart => exact ⟨0, by omega, rfl, [], v, l, Chg.refl _ _, rfl, HH.out, _, _, _, _, OwnI.nil _ _⟩
  case round =>
    obtain ⟨i, hi, rfl, hst⟩ := hrel
    obtain ⟨xs, v', l', hc, hp, hr, S, T, cs, ps, hown⟩ := hst
    have HC := Lib.hid hc; have HP := Lib.hid hp; have HR := Lib.hid hr; have HOWN := Lib.hid hown
    have hxl := rdMany_len _ _ _ _ hp
    obtain ⟨va, vc, rfl⟩ := hown.any
    have HXL := Lib.hid hxl
    rw [hxl]
    by_cases hlt : i < n
    · have hB2 : B ≤ wr.heap.size := by have := hc.size; have := HBG.out.1; omega
      have hg2 : g < wr.heap.size := by have := hc.size; have := HBG.out.2; omega
      clear hc hp hr hown hxl
      go_wp2
      refine (HF.out v' l' wr HR.out hB2 hg2).mono ?_
      rintro r W1 ⟨hc1, hcs⟩
      have HC1 := Lib.hid hc1
      clear hc1
      rcases hcs with ⟨d, val, v1, l1, hp1, rfl, henc, hr1⟩ | ⟨c1, hp1, rfl⟩
      · obtain ⟨sv, rfl, hby⟩ := henc
        obtain ⟨g1, g2, g3, g4, g5, g6⟩ := rdIn_inv HR.out.bytes hp1
        obtain ⟨s1, s2, s3, rfl⟩ := byV.slice hby
        have HFACT := Lib.hid (show RIn (fun k => wr.heap.size ≤ k ∧ k < W1.heap.size) NoneB W1 (.slice s1 s2 s3) (.slice none 0 0) d from ⟨g1, hby.rb g2 (by omega), by rw [g4]; exact (nil_rll _).mono (fun _ h => h.elim) (fun _ h => h)⟩)
        have HLEN := Lib.hid (inCells_length d (.slice s1 s2 s3) (.slice none 0 0) g1.hashLen)
        have HP1 := Lib.hid hp1; have HR1 := Lib.hid hr1
        clear hby g1 g2 g3 g4 g5 g6 hp1 hr1
        go_wp2_with (first
          | (refine wpList_buildSlice1 rfl 43 100 _ rfl 36 96 Tryz.underlying43 in_info in_zero (by decide) (inCells d _ _) rfl HLEN.out ?_)
          | (refine owni_append2 rfl _ _ rfl HOWN.out HC.out.size HC1.out (fun k hk => by have := HBG.out.2; omega) HFACT.out (fun k hk => by rcases hk with hk | hk; exact hk; exact hk.elim) (fun k _ h => h.elim) (by rw [HXL.out]; rfl) 1 _ _ rfl rfl (by rw [HXL.out]; omega) ?_; intro v9 w9 hO9 hC9 hS9; obtain ⟨a9, c9, rfl⟩ := hO9.any; have HO9 := Lib.hid hO9; have HC9 := Lib.hid hC9; clear hO9 hC9 hS9))
        go_roundw
        case rel =>
          have hnb : ∀ k, Value.ownBlock (.slice va i vc) = some k → w.heap.size ≤ k := fun k e => HOWN.out.new k (by rw [HXL.out]; exact e)
          have hx9 : Chg (fun k => Value.ownBlock (.slice va i vc) = some k) W1 w9 := by
            have := HC9.out
            rw [HXL.out] at this
            exact ((keeps_alloc (Keeps.refl _) _).chg _).trans this
          refine ⟨i + 1, by omega, by go_num, xs ++ [d], v1, l1, chg_then (HC.out.trans HC1.out) hx9 (fun k e => .inl (hnb k e)), rdMany_next HP.out HP1.out, ?_, _, _, _, _, by have h9 := HO9.out; rw [show (xs ++ [d]).length = xs.length + 1 by simp] at h9; exact h9⟩
          exact HR1.out.far hx9 (fun k e => by have := hnb k e; have := HBG.out.1; omega) (fun e => by have := hnb g e; have := HBG.out.2; omega)
        case measure => simp [intOf]; omega
      · exact ⟨rfl, HC.out.trans HC1.out, .inr ⟨c1, rdMany_stop (rdMany_fail HP.out hp1) n (by omega), rfl⟩⟩
    · obtain rfl : i = n := by omega
      clear hc hp hr hown hxl
      go_wp2
      go_ret
      exact ⟨HC.out, .inl ⟨xs, _, v', l', HP.out, rfl, ⟨S, T, cs, ps, by have := HOWN.out; rwa [HXL.out] at this⟩, HR.out⟩⟩
set_option maxRecDepth 100000 in
set_option maxHeartbeats 2000000 in
theorem list_out_gen (f : Nat) (x : Value) (hrun : ∀ args W, (callFunc f args).run Tryz.prog W = .ok (.enter f args) W) (g : Nat) (hf : ∀ v l W, RdAt B W g v 0 l → B ≤ W.heap.size → g < W.heap.size → Calls Tryz.prog f #[x] W (ReadT B rdOut (encOut W.heap.size) g l W))
    (v : Value) (l : List Int) (n : Nat) (hn : n ≤ 25000) (w : World) (h : RdAt B w g v 0 l) (hB : B ≤ w.heap.size) (hg : g < w.heap.size) :
    Calls Tryz.prog 106 #[.int .i64 n, .func (.func f) #[x] #[]] w (ReadT B (rdMany rdOut n) (encOuts w.heap.size) g l w) := by
  have HBG := Lib.hid (And.intro hB hg)
  have HH := Lib.hid h
  have HF := Lib.hid hf
  clear h hB hg hf
  go_enter Tryz.func106, Tryz.ntmps106
  go_wp2
  go_loopw [5, 7] (fun vv c wr => ∃ i : Nat, i ≤ n ∧ c = .int .i64 i ∧ ListSt B rdOut encOuts g l w wr i vv) (fun _ c _ => (n - intOf c).toNat)
  case atStart => exact ⟨0, by omega, rfl, [], v, l, Chg.refl _ _, rfl, HH.out, _, _, _, OwnO.nil _ _⟩
  case round =>
    obtain ⟨i, hi, rfl, hst⟩ := hrel
    obtain ⟨xs, v', l', hc, hp, hr, S, cs, ps, hown⟩ := hst
    have HC := Lib.hid hc; have HP := Lib.hid hp; have HR := Lib.hid hr; have HOWN := Lib.hid hown
    have hxl := rdMany_len _ _ _ _ hp
    obtain ⟨va, vc, rfl⟩ := hown.any
    have HXL := Lib.hid hxl
    rw [hxl]
    by_cases hlt : i < n
    · have hB2 : B ≤ wr.heap.size := by have := hc.size; have := HBG.out.1; omega
      have hg2 : g < wr.heap.size := by have := hc.size; have := HBG.out.2; omega
      clear hc hp hr hown hxl
      go_wp2
      refine (HF.out v' l' wr HR.out hB2 hg2).mono ?_
      rintro r W1 ⟨hc1, hcs⟩
      have HC1 := Lib.hid hc1
      clear hc1
      rcases hcs with ⟨d, val, v1, l1, hp1, rfl, henc, hr1⟩ | ⟨c1, hp1, rfl⟩
      · obtain ⟨sv, rfl, hby⟩ := henc
        obtain ⟨g1, g2, g3, g5, g6⟩ := rdOut_inv HR.out.bytes hp1
        obtain ⟨s1, s2, s3, rfl⟩ := byV.slice hby
        have HFACT := Lib.hid (hby.rb g2 (by omega))
        have HVAL := Lib.hid g1
        have HP1 := Lib.hid hp1; have HR1 := Lib.hid hr1
        clear hby g1 g2 g3 g5 g6 hp1 hr1
        go_wp2_with (first
          | (refine wpList_buildSlice1 rfl 44 102 _ rfl 2 32 Tryz.underlying44 out_info out_zero (by decide) (outCells d _) rfl rfl ?_)
          | (refine owno_append2 rfl _ _ rfl HOWN.out HC.out.size HC1.out (fun k hk => by have := HBG.out.2; omega) HFACT.out HVAL.out (fun k hk => hk) (by rw [HXL.out]; rfl) 1 _ _ rfl rfl (by rw [HXL.out]; omega) ?_; intro v9 w9 hO9 hC9 hS9; obtain ⟨a9, c9, rfl⟩ := hO9.any; have HO9 := Lib.hid hO9; have HC9 := Lib.hid hC9; clear hO9 hC9 hS9))
        go_roundw
        case rel =>
          have hnb : ∀ k, Value.ownBlock (.slice va i vc) = some k → w.heap.size ≤ k := fun k e => HOWN.out.new k (by rw [HXL.out]; exact e)
          have hx9 : Chg (fun k => Value.ownBlock (.slice va i vc) = some k) W1 w9 := by
            have := HC9.out
            rw [HXL.out] at this
            exact ((keeps_alloc (Keeps.refl _) _).chg _).trans this
          refine ⟨i + 1, by omega, by go_num, xs ++ [d], v1, l1, chg_then (HC.out.trans HC1.out) hx9 (fun k e => .inl (hnb k e)), rdMany_next HP.out HP1.out, ?_, _, _, _, by have h9 := HO9.out; rw [show (xs ++ [d]).length = xs.length + 1 by simp] at h9; exact h9⟩
          exact HR1.out.far hx9 (fun k e => by have := hnb k e; have := HBG.out.1; omega) (fun e => by have := hnb g e; have := HBG.out.2; omega)
        case measure => simp [intOf]; omega
      · exact ⟨rfl, HC.out.trans HC1.out, .inr ⟨c1, rdMany_stop (rdMany_fail HP.out hp1) n (by omega), rfl⟩⟩
    · obtain rfl : i = n := by omega
      clear hc hp hr hown hxl
      go_wp2
      go_ret
      exact ⟨HC.out, .inl ⟨xs, _, v', l', HP.out, rfl, ⟨S, cs, ps, by have := HOWN.out; rwa [HXL.out] at this⟩, HR.out⟩⟩
set_option maxRecDepth 100000 in
set_option maxHeartbeats 2000000 in
theorem list_text_gen (f : Nat) (x : Value) (hrun : ∀ args W, (callFunc f args).run Tryz.prog W = .ok (.enter f args) W) (g : Nat) (hf : ∀ v l W, RdAt B W g v 0 l → B ≤ W.heap.size → g < W.heap.size → Calls Tryz.prog f #[x] W (ReadT B (rdList 100000) (byV W.heap.size) g l W))
    (v : Value) (l : List Int) (n : Nat) (hn : n ≤ 25000) (w : World) (h : RdAt B w g v 0 l) (hB : B ≤ w.heap.size) (hg : g < w.heap.size) :
    Calls Tryz.prog 108 #[.int .i64 n, .func (.func f) #[x] #[]] w (ReadT B (rdMany (rdList 100000) n) (encTexts w.heap.size) g l w) := by
  have HBG := Lib.hid (And.intro hB hg)
  have HH := Lib.hid h
  have HF := Lib.hid hf
  clear h hB hg hf
  go_enter Tryz.func108, Tryz.ntmps108
  go_wp2
  go_loopw [5, 7] (fun vv c wr => ∃ i : Nat, i ≤ n ∧ c = .int .i64 i ∧ ListSt B (rdList 100000) encTexts g l w wr i vv) (fun _ c _ => (n - intOf c).toNat)
  case atStart => exact ⟨0, by omega, rfl, [], v, l, Chg.refl _ _, rfl, HH.out, _, OwnLL.nil _ _⟩
  case round =>
    obtain ⟨i, hi, rfl, hst⟩ := hrel
    obtain ⟨xs, v', l', hc, hp, hr, vs, hown⟩ := hst
    have HC := Lib.hid hc; have HP := Lib.hid hp; have HR := Lib.hid hr; have HOWN := Lib.hid hown
    have hxl := rdMany_len _ _ _ _ hp
    obtain ⟨va, vc, rfl⟩ := hown.any
    have HXL := Lib.hid hxl
    rw [hxl]
    by_cases hlt : i < n
    · have hB2 : B ≤ wr.heap.size := by have := hc.size; have := HBG.out.1; omega
      have hg2 : g < wr.heap.size := by have := hc.size; have := HBG.out.2; omega
      clear hc hp hr hown hxl
      go_wp2
      refine (HF.out v' l' wr HR.out hB2 hg2).mono ?_
      rintro r W1 ⟨hc1, hcs⟩
      have HC1 := Lib.hid hc1
      clear hc1
      rcases hcs with ⟨d, val, v1, l1, hp1, rfl, henc, hr1⟩ | ⟨c1, hp1, rfl⟩
      · have hby := henc
        obtain ⟨g2, g3, g4, g5, g6⟩ := rdList_inv HR.out.bytes hp1
        obtain ⟨s1, s2, s3, rfl⟩ := byV.slice hby
        have HFACT := Lib.hid (hby.rb g2 (by omega))
        have HP1 := Lib.hid hp1; have HR1 := Lib.hid hr1
        clear henc hby g2 g3 g4 g5 g6 hp1 hr1
        go_wp2_with (first
          | (refine ownl_append2 rfl _ _ rfl HOWN.out HC.out.size HC1.out (fun k hk => by have := HBG.out.2; omega) HFACT.out (by rw [HXL.out]; rfl) 1 _ rfl (by rw [HXL.out]; omega) ?_; intro v9 w9 hO9 hC9; obtain ⟨a9, c9, rfl⟩ := hO9.any; have HO9 := Lib.hid hO9; have HC9 := Lib.hid hC9; clear hO9 hC9))
        go_roundw
        case rel =>
          have hnb : ∀ k, Value.ownBlock (.slice va i vc) = some k → w.heap.size ≤ k := fun k e => HOWN.out.new k (by rw [HXL.out]; exact e)
          have hx9 : Chg (fun k => Value.ownBlock (.slice va i vc) = some k) W1 w9 := by
            have := HC9.out
            rw [HXL.out] at this
            exact ((keeps_alloc (Keeps.refl _) _).chg _).trans this
          refine ⟨i + 1, by omega, by go_num, xs ++ [d], v1, l1, chg_then (HC.out.trans HC1.out) hx9 (fun k e => .inl (hnb k e)), rdMany_next HP.out HP1.out, ?_, _, by have h9 := HO9.out; rw [show (xs ++ [d]).length = xs.length + 1 by simp] at h9; exact h9⟩
          exact HR1.out.far hx9 (fun k e => by have := hnb k e; have := HBG.out.1; omega) (fun e => by have := hnb g e; have := HBG.out.2; omega)
        case measure => simp [intOf]; omega
      · exact ⟨rfl, HC.out.trans HC1.out, .inr ⟨c1, rdMany_stop (rdMany_fail HP.out hp1) n (by omega), rfl⟩⟩
    · obtain rfl : i = n := by omega
      clear hc hp hr hown hxl
      go_wp2
      go_ret
      exact ⟨HC.out, .inl ⟨xs, _, v', l', HP.out, rfl, ⟨vs, by have := HOWN.out; rwa [HXL.out] at this⟩, HR.out⟩⟩
end Go.Proofs.YtcodpdpeklammaaGreatDoor
