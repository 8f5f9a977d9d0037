/- tx.reader's input: the walk. -/
import Derived.Test.YtcodpdpeklammaaGC4
namespace Go.Proofs.Ytcodpdpeklammaa
set_option linter.unusedVariables false
set_option linter.unusedSimpArgs false
open Go Go.RowKit
variable {B : Nat}
set_option maxRecDepth 100000 in
set_option maxHeartbeats 2000000 in
theorem input_t (g : Nat) (v : Value) (l : List Int) (w : World) (h : RdAt B w g v 0 l) (hB : B ≤ w.heap.size) (hg : g < w.heap.size) :
    Calls Try.prog 59 #[rdV g] w (ReadT B rdIn (encIn w.heap.size) g l w) := by
  have HBG := Lib.hid (And.intro hB hg)
  have HH := Lib.hid h
  clear h
  unfold rdV
  go_enter Try.func59, Try.ntmps59
  go_upto_region 2 with (fail)
  refine wp_rows3b (fun W0 hk hr1 hr2 hb3 hsz => ?_)
  simp only at hr1 hr2 hb3
  obtain ⟨p, hp⟩ : ∃ p, p = w.heap.size := ⟨_, rfl⟩
  rw [← hp] at hr1 hr2 hb3 hsz ⊢
  have HP := Lib.hid hp; have HSZ := Lib.hid hsz
  have c0 : W0.cell? ⟨p, 0, none⟩ = some (.pointer (some ⟨g, 0, none⟩)) := by have := (hr1 0 _ rfl).1; simpa using this
  have HRD := Lib.hid (HH.out.keeps hk)
  have HK := Lib.hid hk; have HR1 := Lib.hid hr1
  have HR2 := Lib.hid (show Row W0 (p + 1) 0 zeroIn from hr2)
  have HB3 := Lib.hid (show Blk W0 (p + 1 + 1) zeroIn 45 from hb3)
  have HC0 := Lib.hid c0
  have hgp : g < p := by omega
  clear hk hr1 hr2 hb3 hp hsz hB hg c0
  have HGP := Lib.hid hgp
  refine wp_region_head (S := fun W => Hid ((fun W => W.cell? ⟨p, 0, none⟩ = some (.pointer (some ⟨g, 0, none⟩))) W)) 6 (by kernel_rfl) (by kernel_rfl) ?_ (fun hHeld => ?_)
  focus exact Lib.hid HC0.out
  refine wpAnyHL_take (i := 0) (oi := ?_) (v := ?_) ?_ ?_ ?_ ?_ ?_ ?_ ?_ ?_ ?_ (Or.inl ⟨?_, ?_⟩) ?_ ?_
  rotate_left 2
  focus (simp only [List.getElem?_toArray, List.getElem?_cons_succ, List.getElem?_cons_zero]; exact rfl)
  focus kernel_rfl
  focus kernel_rfl
  focus kernel_rfl
  focus kernel_rfl
  focus kernel_rfl
  focus kernel_rfl
  focus kernel_rfl
  focus (exact fun _ _ _ h => h)
  focus rfl
  focus ((intro wSw hSw; (have hSw := hSw.out); (try dsimp only at hSw); go_simp) <;> with_reducible rfl)
  focus assumption
  try simp only [Act.put, List.setIfInBounds_toArray, List.set_cons_zero, List.set_cons_succ]
  refine wpAnyHL_take (i := 1) (oi := ?_) (v := ?_) ?_ ?_ ?_ ?_ ?_ ?_ ?_ ?_ ?_ (Or.inl ⟨?_, ?_⟩) ?_ ?_
  rotate_left 2
  focus (simp only [List.getElem?_toArray, List.getElem?_cons_succ, List.getElem?_cons_zero]; exact rfl)
  focus kernel_rfl
  focus kernel_rfl
  focus kernel_rfl
  focus kernel_rfl
  focus kernel_rfl
  focus kernel_rfl
  focus kernel_rfl
  focus (exact fun _ _ _ h => h)
  focus rfl
  focus ((intro wSw hSw; (have hSw := hSw.out); (try dsimp only at hSw); go_simp) <;> with_reducible rfl)
  focus assumption
  try simp only [Act.put, List.setIfInBounds_toArray, List.set_cons_zero, List.set_cons_succ]
  refine wpAnyHL_take (i := 2) (oi := ?_) (v := ?_) ?_ ?_ ?_ ?_ ?_ ?_ ?_ ?_ ?_ (Or.inl ⟨?_, ?_⟩) ?_ ?_
  rotate_left 2
  focus (simp only [List.getElem?_toArray, List.getElem?_cons_succ, List.getElem?_cons_zero]; exact rfl)
  focus kernel_rfl
  focus kernel_rfl
  focus kernel_rfl
  focus kernel_rfl
  focus kernel_rfl
  focus kernel_rfl
  focus kernel_rfl
  focus (exact fun _ _ _ h => h)
  focus rfl
  focus ((intro wSw hSw; (have hSw := hSw.out); (try dsimp only at hSw); go_simp) <;> with_reducible rfl)
  focus assumption
  try simp only [Act.put, List.setIfInBounds_toArray, List.set_cons_zero, List.set_cons_succ]
  refine wpAnyHL_take (i := 3) (oi := ?_) (v := ?_) ?_ ?_ ?_ ?_ ?_ ?_ ?_ ?_ ?_ (Or.inl ⟨?_, ?_⟩) ?_ ?_
  rotate_left 2
  focus (simp only [List.getElem?_toArray, List.getElem?_cons_succ, List.getElem?_cons_zero]; exact rfl)
  focus kernel_rfl
  focus kernel_rfl
  focus kernel_rfl
  focus kernel_rfl
  focus kernel_rfl
  focus kernel_rfl
  focus kernel_rfl
  focus (exact fun _ _ _ h => h)
  focus rfl
  focus ((intro wSw hSw; (have hSw := hSw.out); (try dsimp only at hSw); go_simp) <;> with_reducible rfl)
  focus assumption
  try simp only [Act.put, List.setIfInBounds_toArray, List.set_cons_zero, List.set_cons_succ]
  refine wpAnyHL_take (i := 4) (oi := ?_) (v := ?_) ?_ ?_ ?_ ?_ ?_ ?_ ?_ ?_ ?_ (Or.inl ⟨?_, ?_⟩) ?_ ?_
  rotate_left 2
  focus (simp only [List.getElem?_toArray, List.getElem?_cons_succ, List.getElem?_cons_zero]; exact rfl)
  focus kernel_rfl
  focus kernel_rfl
  focus kernel_rfl
  focus kernel_rfl
  focus kernel_rfl
  focus kernel_rfl
  focus kernel_rfl
  focus (exact fun _ _ _ h => h)
  focus rfl
  focus ((intro wSw hSw; (have hSw := hSw.out); (try dsimp only at hSw); go_simp) <;> with_reducible rfl)
  focus assumption
  try simp only [Act.put, List.setIfInBounds_toArray, List.set_cons_zero, List.set_cons_succ]
  refine wpAnyHL_one (i := 5) (o := ?_) (by kernel_rfl) (by kernel_rfl) ?_ ?_
  rotate_left 1
  focus (simp only [List.getElem?_toArray, List.getElem?_cons_succ, List.getElem?_cons_zero]; exact rfl)
  go_wp2_with (go_at_call 79; refine (raw_s g v 0 l 32 (by omega) W0.drew (HRD.out.keeps (keeps_drew (Keeps.refl _))) (by have := HBG.out.1; have := HP.out; have := HSZ.out; have e : W0.drew.heap.size = W0.heap.size := rfl; omega) (by have := HGP.out; have := HSZ.out; have e : W0.drew.heap.size = W0.heap.size := rfl; omega)).mono ?_; rintro r W1 hraw; obtain ⟨hc1, a1, n1, c1, xs, v1, e1, l1, rfl, hrd1, hn1, hra1, hst1, hnk⟩ := hraw; have HCH1 := Lib.hid hc1; have HRD1 := Lib.hid hrd1; have HRA1 := Lib.hid hra1; have HST1 := Lib.hid hst1; have HNK := Lib.hid hnk; clear hc1 hrd1 hra1 hst1 hnk)
  try dsimp only [StepQ]
  refine ⟨?_, fun hHeld => ?_⟩
  focus (exact Lib.hid ((((HR1.out.drew).chg HCH1.out (by have := HGP.out; omega)) 0 _ rfl).1))
  try simp only [Act.put, List.setIfInBounds_toArray, List.set_cons_zero, List.set_cons_succ]
  refine wpAnyHL_done (by kernel_rfl) ?_
  try simp only [List.drop_succ_cons, List.drop_zero]
  have hb1 : Blk W1 (p + 1 + 1) zeroIn 45 := (HB3.out.keeps (keeps_drew (Keeps.refl _))).chg HCH1.out (by have := HGP.out; omega)
  have HB1 := Lib.hid hb1
  clear hb1 hHeld
  go_upto_region 3 with (refine wpList_copy_blk rfl (.tmp 6) (.tmp 9) rfl (p + 1 + 1) 0 32 32 rfl _ n1 _ rfl hn1 zeroIn 45 HB1.out (by have : zeroIn.length = 36 := rfl; omega) (xs.map (Value.int .u8)) HRD1.out (int_oneCell xs) ?_; intro W2 hb2 hc2; have HB2 := Lib.hid hb2; have HC2 := Lib.hid hc2; clear hb2 hc2)
  have hch2 : Chg (· = g) w W2 := chg_then (((HK.out.trans (keeps_drew (Keeps.refl _))).chg _).trans HCH1.out) HC2.out (fun k hk => .inl (by have := HP.out; omega))
  have hin2 : InSt B p g W2 v1 e1 l1 (List.take 0 zeroIn ++ (xs.map (Value.int .u8) ++ zeroIn.drop (0 + n1))) := by
    have hg1 := HGP.out
    have hs : W0.heap.size ≤ W1.heap.size := HCH1.out.size
    have hs2 := HC2.out.size
    have hq : Chg (· = p + 1 + 1) W1 W2 := HC2.out
    have hz := HSZ.out
    refine ⟨((HR1.out.drew).chg HCH1.out (by omega)).chg hq (by omega), ((HR2.out.drew).chg HCH1.out (by omega)).chg hq (by omega), HB2.out.row, by omega, ⟨hg1, by have := HBG.out.1; have := HP.out; omega⟩, ?_⟩
    obtain ⟨x1, x2, x3, x4⟩ := HRA1.out
    have hB2 := HBG.out.1
    have hp2 := HP.out
    refine ⟨x1.chg hq (by omega), ?_, x3, x4⟩
    rcases x2 with x2 | ⟨b, off, cap, y1, y2, y3, y4, y5, y6⟩
    · exact .inl x2
    · exact .inr ⟨b, off, cap, y1, y2, y3, ⟨y4.1, Nat.le_trans y4.2 hq.size⟩, y5, y6.chg hq (by omega)⟩
  have HCH2 := Lib.hid hch2; have HIN2 := Lib.hid hin2
  clear hch2 hin2 HB2 HC2 HRD1 HRA1 HB1 HCH1 HRD HR1 HR2 HB3 HC0
  have c2 := HIN2.out.c0
  have hB2 : B ≤ W2.heap.size := by have := HIN2.out.gp; have := HIN2.out.lt; omega
  have hg2 : g < W2.heap.size := by have := HIN2.out.gp; have := HIN2.out.lt; omega
  by_cases he : e1 = 0
  · subst he
    obtain rfl : n1 = 32 := HNK.out rfl
    have htk : rdTake 32 l = .ok (xs, l1) := by
      rcases HST1.out with ⟨h, _⟩ | ⟨_, _, h⟩ | ⟨_, h, _⟩
      · exact absurd rfl h
      · exact h
      · exact absurd rfl h
    have hxl : xs.length = 32 := by obtain ⟨h3, rfl, _⟩ := rdTake_inv htk; simp; omega
    have HIN := Lib.hid (show InSt B p g W2 v1 0 l1 (inCells ⟨xs, 0, [], 0, []⟩ (.slice none 0 0) (.slice none 0 0)) by have := HIN2.out; rwa [zeroIn_copy] at this)
    have HTK := Lib.hid htk; have HXL := Lib.hid hxl
    clear htk hxl HIN2
    go_upto_region 4 with (go_at_call 53; refine (number_t g v1 l1 W2 HIN.out.rd hB2 hg2).mono ?_; rintro r W3 ⟨hc3, hcs⟩; have HC3 := Lib.hid hc3; clear hc3; rcases hcs with ⟨i3, val3, v3, l3, hp3, rfl, rfl, hr3⟩ | ⟨c3, hp3, rfl⟩; obtain ⟨⟨e32, f32⟩, -⟩ := row_free (HIN.out.next HC3.out hr3).loc HXL.out)
    rotate_left
    · exact ⟨rfl, HCH2.out.trans HC3.out, .inr ⟨c3, in_err2 HTK.out hp3, rfl⟩⟩
    have hi4 := (HIN.out.next HC3.out hr3).put 32 (by rw [inCells_length _ _ _ HXL.out]; omega) (.int .u32 i3)
    rw [inCells_set32 _ _ _ _ HXL.out] at hi4
    have hch4 := (HCH2.out.trans HC3.out).setCell (p := ⟨p + 1 + 1, 32, none⟩) (.inl (by have := HP.out; show w.heap.size ≤ p + 1 + 1; omega)) (.int .u32 i3)
    have HIN4 := Lib.hid hi4; have HCH4 := Lib.hid hch4; have HP3 := Lib.hid hp3
    clear e32 f32 hi4 hch4 hr3 hp3 c2 hB2 hg2 HIN HC3 HCH2
    generalize W3.setCell ⟨p + 1 + 1, 32, none⟩ (.int .u32 i3) = W4 at *
    have c4 := HIN4.out.c0
    have hB4 : B ≤ W4.heap.size := by have := HIN4.out.gp; have := HIN4.out.lt; omega
    have hg4 : g < W4.heap.size := by have := HIN4.out.gp; have := HIN4.out.lt; omega
    go_upto_region 5 with (go_at_call 63; refine (text_t g v3 l3 W4 HIN4.out.rd hB4 hg4).mono ?_; rintro r W5 ⟨hc5, hcs⟩; have HC5 := Lib.hid hc5; clear hc5; rcases hcs with ⟨s5, val5, v5, l5, hp5, rfl, hy5, hr5⟩ | ⟨c5, hp5, rfl⟩; obtain ⟨n51, n52, n53, rfl⟩ := byV.slice hy5; have HY5 := Lib.hid hy5; clear hy5; obtain ⟨-, ⟨e33, f33⟩, -⟩ := row_free (HIN4.out.next HC5.out hr5).loc HXL.out)
    rotate_left
    · exact ⟨rfl, HCH4.out.trans HC5.out, .inr ⟨c5, in_err3 HTK.out HP3.out hp5, rfl⟩⟩
    have hi6 := (HIN4.out.next HC5.out hr5).put 33 (by rw [inCells_length _ _ _ HXL.out]; omega) (.slice n51 n52 n53)
    rw [inCells_set33 _ _ _ _ s5 HXL.out] at hi6
    have hch6 := (HCH4.out.trans HC5.out).setCell (p := ⟨p + 1 + 1, 33, none⟩) (.inl (by have := HP.out; show w.heap.size ≤ p + 1 + 1; omega)) (.slice n51 n52 n53)
    have hy6 := HY5.out.set (p := ⟨p + 1 + 1, 33, none⟩) (by have := HIN4.out.lt; show p + 1 + 1 < W4.heap.size; omega) (.slice n51 n52 n53)
    have HIN6 := Lib.hid hi6; have HCH6 := Lib.hid hch6; have HP5 := Lib.hid hp5; have HY6 := Lib.hid (hy6.low (A' := p + 3) HIN4.out.lt)
    clear e33 f33 hi6 hch6 hr5 hp5 c4 hB4 hg4 HIN4 HC5 HCH4 hy6 HY5
    generalize W5.setCell ⟨p + 1 + 1, 33, none⟩ (.slice n51 n52 n53) = W6 at *
    have c6 := HIN6.out.c0
    have hB6 : B ≤ W6.heap.size := by have := HIN6.out.gp; have := HIN6.out.lt; omega
    have hg6 : g < W6.heap.size := by have := HIN6.out.gp; have := HIN6.out.lt; omega
    go_upto_region 6 with (go_at_call 53; refine (number_t g v5 l5 W6 HIN6.out.rd hB6 hg6).mono ?_; rintro r W7 ⟨hc7, hcs⟩; have HC7 := Lib.hid hc7; clear hc7; rcases hcs with ⟨i7, val7, v7, l7, hp7, rfl, rfl, hr7⟩ | ⟨c7, hp7, rfl⟩; obtain ⟨-, -, ⟨e34, f34⟩, -⟩ := row_free (HIN6.out.next HC7.out hr7).loc HXL.out)
    rotate_left
    · exact ⟨rfl, HCH6.out.trans HC7.out, .inr ⟨c7, in_err4 HTK.out HP3.out HP5.out hp7, rfl⟩⟩
    have hi8 := (HIN6.out.next HC7.out hr7).put 34 (by rw [inCells_length _ _ _ HXL.out]; omega) (.int .u32 i7)
    rw [inCells_set34 _ _ _ _ HXL.out] at hi8
    have hch8 := (HCH6.out.trans HC7.out).setCell (p := ⟨p + 1 + 1, 34, none⟩) (.inl (by have := HP.out; show w.heap.size ≤ p + 1 + 1; omega)) (.int .u32 i7)
    have hy8 := (HY6.out.chg HC7.out (fun b hb e => by have := HGP.out; omega)).set (p := ⟨p + 1 + 1, 34, none⟩) (by show p + 1 + 1 < p + 3; omega) (.int .u32 i7)
    have HIN8 := Lib.hid hi8; have HCH8 := Lib.hid hch8; have HP7 := Lib.hid hp7; have HY8 := Lib.hid hy8
    clear e34 f34 hi8 hch8 hr7 hp7 c6 hB6 hg6 HIN6 HC7 HCH6 hy8 HY6
    generalize W7.setCell ⟨p + 1 + 1, 34, none⟩ (.int .u32 i7) = W8 at *
    go_wp2_with (first | (refine wpList_load_at rfl 45 (.tmp 3) rfl (p + 1 + 1) 0 rfl _ _ HIN8.out.loc Try.underlying45 rfl (sz_in _ _ _ HXL.out) ?_) | (refine wpList_store_row rfl 45 (.tmp 2) (.tmp 21) rfl (p + 1) 0 rfl zeroIn (inCells ⟨xs, i3, s5, i7, []⟩ (.slice n51 n52 n53) (.slice none 0 0)) rfl HIN8.out.res (by rw [inCells_length _ _ _ HXL.out]; rfl) (sz_in _ _ _ HXL.out) (inCells_one _ _ _ rfl rfl) ?_; intro W9 hr9 hc9; have HR9 := Lib.hid hr9; have HC9 := Lib.hid hc9; clear hr9 hc9))
    refine bodyPost_ret (results_cell_at rfl _ _ (p + 1) 0 _ _ (by simp only [Act.put, List.setIfInBounds_toArray, List.set_cons_zero, List.set_cons_succ]; rfl) HR9.out Try.underlying45 rfl (sz_in _ _ _ HXL.out)) rfl ?_
    have hg9 := HGP.out
    have hp9 := HP.out
    have hc9 : Chg (· = p + 1) W8 W9 := HC9.out
    refine ⟨chg_then HCH8.out HC9.out (fun k hk => .inl (by omega)), .inl ⟨_, _, v7, l7, in_ok HTK.out HP3.out HP5.out HP7.out, rfl, ⟨_, rfl, (HY8.out.chg hc9 (fun b hb e => by omega)).low (by omega)⟩, ?_⟩⟩
    obtain ⟨x1, x2, x3, x4⟩ := HIN8.out.rd
    have hgp8 := HIN8.out.gp
    refine ⟨x1.chg hc9 (by omega), ?_, x3, x4⟩
    rcases x2 with x2 | ⟨b, off, cap, y1, y2, y3, y4, y5, y6⟩
    · exact .inl x2
    · exact .inr ⟨b, off, cap, y1, y2, y3, ⟨y4.1, Nat.le_trans y4.2 hc9.size⟩, y5, y6.chg hc9 (by omega)⟩
  · have herr : rdTake 32 l = .error e1 := by
      rcases HST1.out with ⟨h, _⟩ | ⟨_, h, _⟩ | ⟨_, _, h, _⟩
      · exact absurd rfl h
      · exact absurd h he
      · exact h
    have HRX := Lib.hid HIN2.out.rd
    go_wp2_with (go_at_call 53; refine (number_e g v1 e1 he l1 W2 HRX.out hB2 hg2).mono ?_; rintro r W3 ⟨rfl, hc3⟩)
    exact ⟨rfl, HCH2.out.trans hc3, .inr ⟨e1, in_err1 herr, rfl⟩⟩
end Go.Proofs.Ytcodpdpeklammaa
