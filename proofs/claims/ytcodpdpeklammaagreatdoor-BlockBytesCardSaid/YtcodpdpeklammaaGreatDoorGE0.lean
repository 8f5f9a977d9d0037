/- block.Decode: the walk. -/
import Derived.Test.YtcodpdpeklammaaGreatDoorGD9
import Derived.Test.YtcodpdpeklammaaGreatDoorGC6
namespace Go.Proofs.YtcodpdpeklammaaGreatDoor
set_option linter.unusedVariables false
set_option linter.unusedSimpArgs false
open Go Go.RowKit
theorem blk_part {l5 l6 part : List Int} (hb : Bytes l5) (h : rdList 100000 l5 = .ok (part, l6)) : part.length ≤ 100000 ∧ Bytes part := by
  have := rdList_inv hb h
  exact ⟨by omega, this.1⟩
set_option maxRecDepth 100000 in
set_option maxHeartbeats 4000000 in
theorem bkdec_any (v : Value) (l : List Int) (w : World) (hr : Rd w 1 v l.length (l.map (Value.int .u8))) (hn : l.length ≤ 140737488355328) (hb : Bytes l) :
    Calls Tryz.prog 14 #[v] w (BkDecP l w) := by
  have HR := Lib.hid hr; have HBY := Lib.hid hb
  obtain ⟨ad, cap, rfl⟩ : ∃ a c, v = .slice a l.length c := by obtain ⟨_, a, c, e, _⟩ := hr; exact ⟨a, c, e⟩
  clear hr hb
  obtain ⟨i0, z0, hi, hz0, hz1, hz2, hz3⟩ := info2_any tx_info tx_zero
  have HI := Lib.hid hi; have HZ0 := Lib.hid hz0; have HZ1 := Lib.hid hz1; have HZ2 := Lib.hid hz2; have HZ3 := Lib.hid hz3
  clear hi hz0 hz1 hz2 hz3
  go_enter Tryz.func14, Tryz.ntmps14
  go_upto_region 1 with (fail)
  refine wp_rows1r (fun W0 hk hr1 hsz => ?_)
  obtain ⟨p, hp⟩ : ∃ p, p = w.heap.size := ⟨_, rfl⟩
  rw [← hp] at hr1 hsz ⊢
  have HP := Lib.hid hp; have HSZ := Lib.hid hsz; have HK := Lib.hid hk
  have HR1 := Lib.hid (show Row W0 p 0 (blkCells (hd0 0) (.slice none 0 0)) from hr1)
  clear hp hsz hk hr1
  by_cases hbig : 1000000 < l.length
  · have hb2 : (1000000 : Int) < (l.length : Int) := by omega
    go_wp2_with (first
      | ((with_reducible refine gate_build 29 _ ?_); refine wpList_build_at rfl 29 _ rfl [] ?_ _ built_blk0 ?_; focus rfl)
      | ((with_reducible refine gate_store 29 (.tmp 2) (.tmp 14) ?_); refine wpList_store_row rfl 29 (.tmp 2) (.tmp 14) rfl p 0 rfl (blkCells (hd0 0) (.slice none 0 0)) (blkCells (hd0 0) (.slice none 0 0)) rfl HR1.out rfl (bd_sz_blk _ rfl rfl) (blkCells_one _ _ _ _) ?_; intro W5 hr5 hc5; have HR5 := Lib.hid hr5; have HC5 := Lib.hid hc5; clear hr5 hc5))
    refine bodyPost_ret (results_cell_tmp (t := 3) (p := 2) rfl _ _ p 0 _ _ _ rfl rfl HR5.out Tryz.underlying29 rfl (bd_sz_blk _ rfl rfl)) rfl ?_
    exact ⟨keeps_chg HK.out HC5.out (by have := HP.out; omega), .inr ⟨2, decBlk_big hbig, by decide, rfl⟩⟩
  have hb2 : ¬ (1000000 : Int) < (l.length : Int) := by omega
  have HBIG := Lib.hid hbig
  go_upto_region 5 with (first
    | (go_at_call 27; refine (rdr_open_any _ l W0 (HR.out.keeps HK.out) hn HBY.out).mono ?_; rintro r W1 ⟨g, v1, rfl, hg1, hg2, hra, hk1⟩; have HRA := Lib.hid hra; have HK1 := Lib.hid hk1; have HG := Lib.hid (And.intro hg1 hg2); clear hra hk1 hg1 hg2)
    | (go_at_call 28; refine (header_any (B := W1.heap.size) g v1 l W1 HRA.out (Nat.le_refl _) HG.out.2).mono ?_; intro r W2 hpst; obtain ⟨hc2, h, v2, e2, l2, hd, rfl, hok, hra2, hrf, heq⟩ := hpst; have HC2 := Lib.hid hc2; have HOK := Lib.hid hok; have HRA2 := Lib.hid hra2; have HRF := Lib.hid hrf; have HEQ := Lib.hid heq; clear hc2 hok hra2 hrf heq)
    | ((with_reducible refine gate_build 29 _ ?_); refine wpList_build_at rfl 29 _ rfl [(0, .agg (hdCells h).toArray)] ?_ _ (built_blk HOK.out.prevLen HOK.out.merkleLen) ?_; focus (simp only [List.map_toArray, List.map_cons, List.map_nil]; rfl))
    | ((with_reducible refine gate_store 29 (.tmp 5) (.tmp 19) ?_); refine wpList_store_row rfl 29 (.tmp 5) (.tmp 19) rfl W2.heap.size 0 rfl (blkCells (hd0 0) (.slice none 0 0)) (blkCells h (.slice none 0 0)) rfl (Row.new _ _ _ rfl) (by rw [blkCells_len _ HOK.out.prevLen HOK.out.merkleLen, blkCells_len _ rfl rfl]) (bd_sz_blk _ HOK.out.prevLen HOK.out.merkleLen) (blkCells_one _ _ _ _) ?_; intro W3 hr3 hc3; have HR3 := Lib.hid hr3; have HC3 := Lib.hid hc3; clear hr3 hc3))
  have hst : BkL W1.heap.size (W2.heap.size + 1) p W2.heap.size g w W3 v2 e2 l2 h (.slice none 0 0) [] [] [] := by
    have hg := HG.out
    have hsz := HSZ.out
    have hk1s := HK1.out.size
    have hc2s := HC2.out.size
    have hpp := HP.out
    have hka : Keeps W2 (W2.alloc (.cells (blkCells (hd0 0) (.slice none 0 0)).toArray 29)) := keeps_alloc (Keeps.refl _) _
    have hc3 : Chg (· = W2.heap.size) _ W3 := HC3.out
    have hlt := HR3.out.lt (by simp [blkCells, hdCells, headCells])
    refine ⟨keeps_chg (keeps_alloc (keeps_chg (HK.out.trans HK1.out) HC2.out (by omega)) _) hc3 (by omega), by omega, (((HR1.out.keeps HK1.out).chg HC2.out (by omega)).keeps hka).chg hc3 (by omega), HR3.out, ?_, GotTs.nil _ _⟩
    exact (HRA2.out.keeps hka).far hc3 (fun k e => by have h : k = W2.heap.size := e; omega) (by omega)
  have HST := Lib.hid hst
  clear hst HR3 HC3 HC2 HRA HR1 HRA2 HK1 HG HSZ HK
  generalize W1.heap.size = B at *
  generalize hbase : W2.heap.size + 1 = base at *
  generalize W2.heap.size = q at *
  go_upto_region 6 with (go_at_call 36; refine (size_s g v2 e2 l2 W3 HST.out.rd HST.out.size.1 HST.out.size.2).mono ?_; intro r W4 hpst; obtain ⟨hc4, n, v4, e4, l4, rfl, hn4, hra4, hrf4, hz4⟩ := hpst; have HRF4 := Lib.hid hrf4; have HS4 := Lib.hid (HST.out.read hc4 hra4); have HN4 := Lib.hid hn4; clear hc4 hra4 hrf4 hn4)
  have hsz := blk_sz HRF.out HRF4.out
  have HSZ := Lib.hid hsz
  clear hsz HST HRF4 HRF
  by_cases he4 : e4 = 0
  rotate_left
  · -- the reader failed: no transaction is read
    have hn0 := hz4 he4
    subst hn0
    have hc0 : closeE e4 l4 = e4 := by unfold closeE; rw [if_neg (fun h => he4 h.1)]
    have HC0 := Lib.hid hc0
    clear hc0 hz4
    have HE4 := Lib.hid he4
    go_upto_region 9 with (fail)
    go_loopw [26] (fun c wr => c = .int .u64 0 ∧ wr = W4) (fun _ _ => 0)
    case atStart => exact ⟨rfl, rfl⟩
    case round =>
      obtain ⟨rfl, rfl⟩ := hrel
      go_upto_region 18 with (go_at_call 29; refine (rdr_close_any g v4 e4 l4 _ HS4.out.rd).mono ?_; rintro r W5 ⟨rfl, rfl⟩; rw [HC0.out])
      go_wp2_with (first
        | ((with_reducible refine gate_build 29 _ ?_); refine wpList_build_at rfl 29 _ rfl [] ?_ _ built_blk0 ?_; focus rfl)
        | ((with_reducible refine gate_store 29 (.tmp 2) (.tmp 53) ?_); refine wpList_store_row rfl 29 (.tmp 2) (.tmp 53) rfl p 0 rfl (blkCells (hd0 0) (.slice none 0 0)) (blkCells (hd0 0) (.slice none 0 0)) rfl HS4.out.res rfl (bd_sz_blk _ rfl rfl) (blkCells_one _ _ _ _) ?_; intro WZ hrz hcz; have HRZ := Lib.hid hrz; have HCZ := Lib.hid hcz; clear hrz hcz))
      refine bodyPost_ret (results_cell_tmp (t := 3) (p := 2) rfl _ _ p 0 _ _ _ rfl rfl HRZ.out Tryz.underlying29 rfl (bd_sz_blk _ rfl rfl)) rfl ?_
      rcases HSZ.out with ⟨_, hbk⟩ | ⟨hbk, _⟩
      · exact ⟨keeps_chg HS4.out.keeps HCZ.out (by have := HS4.out.ord; omega), .inr ⟨e4, decBlk_err HBIG.out hbk, HE4.out, rfl⟩⟩
      · exact absurd hbk HE4.out
  · subst he4
    obtain ⟨rfl, hh, hs⟩ : e2 = 0 ∧ rdHead l = .ok (hd, l2) ∧ rdSize l2 = .ok ((n : Int), l4) := by
      rcases HSZ.out with ⟨h, _⟩ | ⟨_, h⟩
      · exact absurd rfl h
      · exact h
    obtain rfl := HEQ.out rfl
    have HH := Lib.hid hh; have HSI := Lib.hid hs
    clear hh hs HSZ HEQ hz4
    by_cases h10 : 10000 < n
    · have hi10 : (10000 : Int) < (n : Int) := by omega
      go_wp2_with (first
        | ((with_reducible refine gate_build 29 _ ?_); refine wpList_build_at rfl 29 _ rfl [] ?_ _ built_blk0 ?_; focus rfl)
        | ((with_reducible refine gate_store 29 (.tmp 2) (.tmp 24) ?_); refine wpList_store_row rfl 29 (.tmp 2) (.tmp 24) rfl p 0 rfl (blkCells (hd0 0) (.slice none 0 0)) (blkCells (hd0 0) (.slice none 0 0)) rfl HS4.out.res rfl (bd_sz_blk _ rfl rfl) (blkCells_one _ _ _ _) ?_; intro WZ hrz hcz; have HRZ := Lib.hid hrz; have HCZ := Lib.hid hcz; clear hrz hcz))
      refine bodyPost_ret (results_cell_tmp (t := 3) (p := 2) rfl _ _ p 0 _ _ _ rfl rfl HRZ.out Tryz.underlying29 rfl (bd_sz_blk _ rfl rfl)) rfl ?_
      exact ⟨keeps_chg HS4.out.keeps HCZ.out (by have := HS4.out.ord; omega), .inr ⟨2, decBlk_err HBIG.out (blk_e3 HH.out HSI.out hi10), by decide, rfl⟩⟩
    have hi10 : ¬ (10000 : Int) < (n : Int) := by omega
    have hgo : rdBlk l = rdBlk2 h n l4 := by have := blk_go HH.out HSI.out hi10; rwa [Int.toNat_natCast] at this
    have HGO := Lib.hid hgo
    clear hgo
    go_upto_region 9 with (fail)
    go_loopw [26] (fun c wr => ∃ i : Nat, i ≤ n ∧ c = .int .u64 i ∧ ∃ v' l' tv xs cs ps, Hid (BkL B base p q g w wr v' 0 l' h tv xs cs ps) ∧ Hid (rdMany rdTxE i l4 = .ok (xs, l'))) (fun c _ => (n - intOf c).toNat)
    case atStart => exact ⟨0, by omega, rfl, _, _, _, _, _, _, HS4, Lib.hid rfl⟩
    case round =>
      obtain ⟨i, hi, rfl, v5, l5, tv, xs, cs, ps, HS, HM⟩ := hrel
      have hxl : xs.length = i := rdMany_len _ _ _ _ HM.out
      obtain ⟨va, vc, hv⟩ := HS.out.got.any
      rw [hxl] at hv
      subst hv
      have HXL := Lib.hid hxl
      clear hxl
      by_cases hlt : i < n
      · have hii : (i : Int) < (n : Int) := by omega
        go_upto_region 11 with (go_at_call 37; refine (rdr_bytes_any g v5 0 l5 100000 wr HS.out.rd HS.out.size.1 HS.out.size.2).mono ?_; rintro r W5 ⟨hc5, hcase⟩; have HC5 := Lib.hid hc5; clear hc5; rcases hcase with ⟨h0, _⟩ | ⟨_, part, val, v6, l6, hp6, rfl, hx6, hr6⟩ | ⟨_, c6, hp6, rfl, hr6⟩; exact absurd rfl h0)
        rotate_left
        focus
          have HS6 := Lib.hid (HS.out.read HC5.out hr6)
          have hc60 : ¬ c6 = 0 := rdList_err hp6
          have HC0 := Lib.hid (show closeE c6 l5 = c6 by unfold closeE; rw [if_neg (fun h => hc60 h.1)])
          have HP6 := Lib.hid hp6; have HC60 := Lib.hid hc60
          clear hp6 hr6
          go_upto_region 18 with (first
            | (go_at_call 38; refine (rdr_err_any g _ c6 _ W5 HS6.out.rd).mono ?_; rintro r W6 ⟨rfl, rfl⟩)
            | (go_at_call 29; refine (rdr_close_any g _ c6 _ _ HS6.out.rd).mono ?_; rintro r W6 ⟨rfl, rfl⟩; rw [HC0.out]))
          go_wp2_with (first
            | ((with_reducible refine gate_build 29 _ ?_); refine wpList_build_at rfl 29 _ rfl [] ?_ _ built_blk0 ?_; focus rfl)
            | ((with_reducible refine gate_store 29 (.tmp 2) (.tmp 53) ?_); refine wpList_store_row rfl 29 (.tmp 2) (.tmp 53) rfl p 0 rfl (blkCells (hd0 0) (.slice none 0 0)) (blkCells (hd0 0) (.slice none 0 0)) rfl HS6.out.res rfl (bd_sz_blk _ rfl rfl) (blkCells_one _ _ _ _) ?_; intro WZ hrz hcz; have HRZ := Lib.hid hrz; have HCZ := Lib.hid hcz; clear hrz hcz))
          refine bodyPost_ret (results_cell_tmp (t := 3) (p := 2) rfl _ _ p 0 _ _ _ rfl rfl HRZ.out Tryz.underlying29 rfl (bd_sz_blk _ rfl rfl)) rfl ?_
          exact ⟨keeps_chg HS6.out.keeps HCZ.out (by have := HS6.out.ord; omega), .inr ⟨c6, decBlk_err HBIG.out (by rw [HGO.out]; exact blk2_err (rdMany_stop (rdMany_fail HM.out (txe_e1 HP6.out)) n (by omega))), HC60.out, rfl⟩⟩
        have HS6 := Lib.hid (HS.out.read HC5.out hr6)
        obtain ⟨pl, pby⟩ := blk_part HS.out.rd.bytes hp6
        obtain ⟨pa, pn, pc, rfl⟩ := hx6.slice
        have HX6 := Lib.hid hx6.1.rd
        have HP6 := Lib.hid hp6; have HPB := Lib.hid pby
        clear hp6 hr6 hx6 pby
        go_upto_region 12 with (go_at_call 38; refine (rdr_err_any g _ 0 _ W5 HS6.out.rd).mono ?_; rintro r W6 ⟨rfl, rfl⟩)
        go_upto_region 13 with (first
          | (go_at_call 39; refine (decode_any _ part _ HX6.out (by omega) HPB.out).mono ?_; rintro r W6 ⟨hk6, hcs⟩; have HK6 := Lib.hid hk6; clear hk6; rcases hcs with ⟨d, iv, ov, hd6, rfl, hi6, hu6, gi6, go6⟩ | ⟨c6, hd6, rfl⟩; obtain ⟨ia, ic, rfl, -⟩ := gi6.any; obtain ⟨oa, oc, rfl, -⟩ := go6.any)
          | ((with_reducible refine gate_store 46 (.tmp 8) (.tmp 36) ?_); refine wpList_store_row rfl 46 (.tmp 8) (.tmp 36) rfl _ 0 rfl _ (txCells d _ _) rfl (Row.new [.int .i32 0, .slice none 0 0, .slice none 0 0, .int .u32 0] _ _ rfl) rfl (sz_tx _ _ _ _) (four_one _ _ _ _ _ _ _ _) ?_; intro W7 hr7 hc7; have HR7 := Lib.hid hr7; have HC7 := Lib.hid hc7; clear hr7 hc7))
        rotate_left
        focus
          have hc60 : ¬ c6 = 0 := decTx_errs hd6
          have HD6 := Lib.hid hd6; have HC60 := Lib.hid hc60
          have HS7 := Lib.hid (HS6.out.keep HK6.out)
          clear hd6
          go_upto_region 13 with (fail)
          have HS8 := Lib.hid (HS7.out.keep (keeps_alloc (Keeps.refl _) (.cells #[.int .i32 0, .slice none 0 0, .slice none 0 0, .int .u32 0] 46)))
          go_wp2_with (first
            | ((with_reducible refine gate_build 29 _ ?_); refine wpList_build_at rfl 29 _ rfl [] ?_ _ built_blk0 ?_; focus rfl)
            | ((with_reducible refine gate_store 29 (.tmp 2) (.tmp 40) ?_); refine wpList_store_row rfl 29 (.tmp 2) (.tmp 40) rfl p 0 rfl (blkCells (hd0 0) (.slice none 0 0)) (blkCells (hd0 0) (.slice none 0 0)) rfl HS8.out.res rfl (bd_sz_blk _ rfl rfl) (blkCells_one _ _ _ _) ?_; intro WZ hrz hcz; have HRZ := Lib.hid hrz; have HCZ := Lib.hid hcz; clear hrz hcz))
          refine bodyPost_ret (results_cell_tmp (t := 3) (p := 2) rfl _ _ p 0 _ _ _ rfl rfl HRZ.out Tryz.underlying29 rfl (bd_sz_blk _ rfl rfl)) rfl ?_
          exact ⟨keeps_chg HS8.out.keeps HCZ.out (by have := HS8.out.ord; omega), .inr ⟨c6, decBlk_err HBIG.out (by rw [HGO.out]; exact blk2_err (rdMany_stop (rdMany_fail HM.out (txe_e2 HP6.out HD6.out)) n (by omega))), HC60.out, rfl⟩⟩
        have HRT := Lib.hid (got_btw hi6 hu6 gi6 go6)
        have HD6 := Lib.hid hd6
        clear hd6 hi6 hu6 gi6 go6
        have HK67 := Lib.hid (keeps_chg (keeps_alloc (Keeps.refl W6) _) HC7.out (Nat.le_refl _))
        have HK7 := Lib.hid (HK6.out.trans HK67.out)
        obtain ⟨r8, hr8⟩ : ∃ r8, r8 = W6.heap.size := ⟨_, rfl⟩
        rw [← hr8] at HR7 ⊢
        have HR8 := Lib.hid hr8
        clear hr8 HC7
        have HBF : Hid (Buf W7 4 (.slice va i vc) i cs) := Lib.hid (by have := HS6.out.got.buf.keeps HK7.out; rw [HXL.out] at this; exact this)
        obtain ⟨c7, -⟩ := blk_at68 (HS6.out.loc.keeps HK7.out) HOK.out.prevLen HOK.out.merkleLen
        go_upto_region 16 with (first
          | ((with_reducible refine gate_load 46 (.tmp 8) ?_); refine wpList_load_at rfl 46 (.tmp 8) rfl r8 0 rfl _ _ HR7.out Tryz.underlying46 rfl (sz_tx _ _ _ _) ?_)
          | (refine wpList_buildSlice1 rfl 27 46 _ rfl 4 64 Tryz.underlying27 tx_info tx_zero (by decide) (txCells d _ _) rfl rfl ?_)
          | (at_builtin; refine wpList_append_buf rfl _ _ 27 27 rfl 46 i0 z0 4 64 Tryz.underlying27 HI.out HZ0.out HZ1.out HZ2.out HZ3.out (by decide) (.slice va i vc) i cs rfl (HBF.out.keeps (keeps_alloc (Keeps.refl _) _)) _ rfl 1 (txCells d _ _) (Src.row Tryz.underlying27 rfl (Row.new (txCells d _ _) _ 46 rfl) (four_one _ _ _ _ _ _ _ _)) (by unfold maxLen; omega) (by omega) ?_; intro v9 w9 hb9 hc9 hs9 _; obtain ⟨a9, k9, rfl, -⟩ := hb9.any; obtain ⟨c9, f9⟩ := blk_at68 (((HS6.out.loc.keeps HK7.out).keeps (keeps_alloc (Keeps.refl _) _)).chg hc9 (fun e => by have h1 := HS6.out.got.new _ e; have h2 := HS6.out.ord; omega)) HOK.out.prevLen HOK.out.merkleLen; have HB9 := Lib.hid hb9; have HC9 := Lib.hid hc9; have HS9 := Lib.hid hs9; clear hb9 hc9 hs9))
        have h9 := HS6.out.appended HOK.out.prevLen HOK.out.merkleLen (HK7.out.trans (keeps_alloc (Keeps.refl _) _)) (Nat.le_trans HK67.out.size (keeps_alloc (Keeps.refl _) _).size) ((HRT.out.keeps HK67.out).keeps (keeps_alloc (Keeps.refl _) _)) (by rw [HXL.out]; exact HB9.out) HC9.out HS9.out
        have H9 := Lib.hid h9
        clear h9 HB9 HC9 HS9 c9 f9
        go_wp2
        go_roundw
        case rel => exact ⟨i + 1, by omega, by go_num, _, _, _, _, _, _, H9, Lib.hid (rdMany_next HM.out (txe_ok HP6.out HD6.out))⟩
        case measure => simp [intOf]; omega
      · obtain rfl : i = n := by omega
        by_cases hl5 : 0 < l5.length
        · have HC0 := Lib.hid (show closeE 0 l5 = 3 by unfold closeE; rw [if_pos ⟨rfl, hl5⟩])
          go_upto_region 18 with (go_at_call 29; refine (rdr_close_any g _ 0 _ _ HS.out.rd).mono ?_; rintro r W6 ⟨rfl, rfl⟩; rw [HC0.out])
          go_wp2_with (first
            | ((with_reducible refine gate_build 29 _ ?_); refine wpList_build_at rfl 29 _ rfl [] ?_ _ built_blk0 ?_; focus rfl)
            | ((with_reducible refine gate_store 29 (.tmp 2) (.tmp 53) ?_); refine wpList_store_row rfl 29 (.tmp 2) (.tmp 53) rfl p 0 rfl (blkCells (hd0 0) (.slice none 0 0)) (blkCells (hd0 0) (.slice none 0 0)) rfl HS.out.res rfl (bd_sz_blk _ rfl rfl) (blkCells_one _ _ _ _) ?_; intro WZ hrz hcz; have HRZ := Lib.hid hrz; have HCZ := Lib.hid hcz; clear hrz hcz))
          refine bodyPost_ret (results_cell_tmp (t := 3) (p := 2) rfl _ _ p 0 _ _ _ rfl rfl HRZ.out Tryz.underlying29 rfl (bd_sz_blk _ rfl rfl)) rfl ?_
          exact ⟨keeps_chg HS.out.keeps HCZ.out (by have := HS.out.ord; omega), .inr ⟨3, decBlk_err HBIG.out (by rw [HGO.out]; exact blk2_left HM.out hl5), by decide, rfl⟩⟩
        · have HC0 := Lib.hid (show closeE 0 l5 = 0 by unfold closeE; rw [if_neg (fun h => hl5 h.2)])
          go_upto_region 18 with (go_at_call 29; refine (rdr_close_any g _ 0 _ _ HS.out.rd).mono ?_; rintro r W6 ⟨rfl, rfl⟩; rw [HC0.out])
          go_wp2_with (first
            | ((with_reducible refine gate_load 29 (.tmp 5) ?_); refine wpList_load_at rfl 29 (.tmp 5) rfl q 0 rfl _ _ HS.out.loc Tryz.underlying29 rfl (bd_sz_blk _ HOK.out.prevLen HOK.out.merkleLen) ?_)
            | ((with_reducible refine gate_store 29 (.tmp 2) (.tmp 55) ?_); refine wpList_store_row rfl 29 (.tmp 2) (.tmp 55) rfl p 0 rfl (blkCells (hd0 0) (.slice none 0 0)) (blkCells h (.slice va i vc)) rfl HS.out.res (by rw [blkCells_len _ HOK.out.prevLen HOK.out.merkleLen, blkCells_len _ rfl rfl]) (bd_sz_blk _ HOK.out.prevLen HOK.out.merkleLen) (blkCells_one _ _ _ _) ?_; intro WZ hrz hcz; have HRZ := Lib.hid hrz; have HCZ := Lib.hid hcz; clear hrz hcz))
          refine bodyPost_ret (results_cell_tmp (t := 3) (p := 2) rfl _ _ p 0 _ _ _ rfl rfl HRZ.out Tryz.underlying29 rfl (bd_sz_blk _ HOK.out.prevLen HOK.out.merkleLen)) rfl ?_
          have hord := HS.out.ord
          have hcz := HCZ.out
          refine ⟨keeps_chg HS.out.keeps hcz (by omega), .inl ⟨h, xs, .slice va i vc, base, decBlk_ok HBIG.out (by rw [HGO.out]; exact blk2_ok HM.out hl5), rfl, HOK.out, by omega, ?_⟩⟩
          have hgt := HS.out.got.chg hcz (fun k hk e => by have e : k = p := e; omega)
          exact hgt.txs (by rw [HXL.out]; omega)
end Go.Proofs.YtcodpdpeklammaaGreatDoor
