/- tx.Encode. -/
import Derived.Test.YtcodpdpeklammaaGreatDoorGB9
namespace Go.Proofs.YtcodpdpeklammaaGreatDoor
set_option linter.unusedVariables false
set_option linter.unusedSimpArgs false
open Go Go.RowKit

/-- a writer's invariant over a walk: its cell's block g, its slice v -/
theorem WrAt.base {w0 w1 W : World} {g : Nat} {v : Value} {n : Nat} {l : List Int} (h : WrAt w0 W g v n l) : Keeps w0 W := h.own.keeps
theorem WrAt.cast {w0 W : World} {g : Nat} {v : Value} {n m : Nat} {l r : List Int} (h : WrAt w0 W g v n l) (e : l = r) (e2 : n = m) : WrAt w0 W g v m r := by subst e e2; exact h
/-- a writer, and a row of another block -/
structure WSt (w0 W : World) (q : Nat) (v : Value) (n : Nat) (l : List Int) (p7 : Nat) (cs : List Value) : Prop where
  wr : WrAt w0 W q v n l
  row : Row W p7 0 cs
  lt : p7 < W.heap.size
  ne : p7 ≠ q
  ap : v.ownBlock ≠ some p7
theorem WSt.grown {w0 W W' : World} {q p7 n n' : Nat} {v v' : Value} {l l' : List Int} {cs : List Value} (h : WSt w0 W q v n l p7 cs) (h' : WrAt w0 W' q v' n' l') (hg : WGrown q v W W' v') : WSt w0 W' q v' n' l' p7 cs := by
  refine ⟨h', h.row.chg hg.1 (fun e => by rcases e with e | e; exact h.ne e; exact h.ap e), Nat.lt_of_lt_of_le h.lt hg.1.size, h.ne, ?_⟩
  rcases hg.2 with e | ⟨b, e1, e2⟩
  · rw [e]; exact h.ap
  · rw [e1]; intro e; cases e; have := h.lt; omega
theorem WSt.new {w0 W W5 : World} {q n : Nat} {v : Value} {l : List Int} {cs : List Value} (h : WrAt w0 W q v n l) (hk : Keeps W W5) (hr : Row W5 W.heap.size 0 cs) (hl : W.heap.size < W5.heap.size) : WSt w0 W5 q v n l W.heap.size cs :=
  ⟨h.keeps hk, hr, hl, by have := h.row.lt (by simp); omega, fun e => by have := h.own.buf.lt e; omega⟩
theorem WSt.at {w0 W : World} {q n p7 : Nat} {v : Value} {l : List Int} {d : InD} {sv wv : Value} (h : WSt w0 W q v n l p7 (inCells d sv wv)) (hl : d.hash.length = 32) :
    W.cell? ⟨p7, 32, none⟩ = some (.int .u32 d.index) ∧ W.cell? ⟨p7, 33, none⟩ = some sv ∧ W.cell? ⟨p7, 34, none⟩ = some (.int .u32 d.seq) ∧ W.cell? ⟨p7, 35, none⟩ = some wv := by
  have := at_index h.row hl
  simpa using this
theorem WSt.hash {w0 W : World} {q n p7 : Nat} {v : Value} {l : List Int} {d : InD} {sv wv : Value} (h : WSt w0 W q v n l p7 (inCells d sv wv)) (hl : d.hash.length = 32) : Rd W 1 (.slice (some ⟨p7, 0, none⟩) 32 32) 32 (d.hash.map (Value.int .u8)) := by
  have := h.row.take 32
  unfold inCells at this
  rw [List.take_append_of_le_length (by simp [hl]), List.take_of_length_le (by simp [hl])] at this
  exact Rd.of_row this (by simp [hl]) h.lt (Nat.le_refl _) (by unfold maxLen; omega)
theorem WrAt.norm {w0 W : World} {g : Nat} {v : Value} {n : Nat} {l r : List Int} (h : WrAt w0 W g v n l) (e : l = r) : WrAt w0 W g v r.length r := by subst e; have := h.len; rw [this]; exact h
/-- a slice that lay in memory ahead of the writer -/
theorem old_apart {w w0 W Wr : World} {q n : Nat} {v xv : Value} {l xs : List Int} {S : Nat → Prop} (hr : RB S Wr xv xs) (hS : ∀ g, S g → g < w.heap.size) (hk : Keeps w w0) (hq : w0.heap.size ≤ q) (h : WrAt w0 W q v n l) : ∀ b, xv.ownBlock = some b → b ≠ q ∧ v.ownBlock ≠ some b ∧ b < W.heap.size := by
  intro b e
  have h1 := hS b (hr.foot b e)
  have h2 := hk.size
  have h3 := h.own.keeps.size
  exact ⟨by omega, fun e2 => by have := h.own.new b e2; omega, by omega⟩
set_option maxRecDepth 100000 in
set_option maxHeartbeats 4000000 in
theorem enc_core (S T R : Nat → Prop) (d : TxD) (iv ov : Value) (wit c : Bool) (hcc : (wit = false ∧ c = false) ∨ (wit = true ∧ c = true ∧ witnessedD d = true) ∨ (wit = true ∧ c = false ∧ witnessedD d = false)) (hf : Fits d) (w : World) (h : RTx S T R w iv ov d) (hS : ∀ g, S g → g < w.heap.size) :
    Calls Tryz.prog 24 #[.agg #[.int .i32 d.ver, iv, ov, .int .u32 d.lock], .bool wit] w fun e w' => ∃ v n, e = .returned v ∧ Own w w' v n (leB (d.ver % 4294967296) 4 ++ (if c then [0, 1] else []) ++ insB d.ins ++ outsB d.outs ++ (if c then d.ins.flatMap witB else []) ++ leB d.lock 4) := by
  have HT := Lib.hid h; have HI := Lib.hid h.ins; have HOU := Lib.hid h.outs; have HS := Lib.hid hS
  have hlock := h.lock
  obtain ⟨lk0, lk1⟩ := hlock
  obtain ⟨ia, ic, rfl, hic, hicm, -⟩ := h.ins.any
  obtain ⟨oa, oc, rfl, hoc, hocm, -⟩ := h.outs.any
  have hism : d.ins.length * 96 ≤ 140737488355328 := by obtain ⟨_, _, h⟩ := h.ins; exact h.small
  have hosm : d.outs.length * 32 ≤ 140737488355328 := by obtain ⟨_, _, h⟩ := h.outs; exact h.small
  clear h hS
  unfold Fits at hf
  have HW := Lib.hid (fun W (hk : Keeps w W) => witnessed_any S T R d _ _ W (HT.out.keeps hk))
  have hm1 : IntKind.u32.wrap d.ver = d.ver % 4294967296 := by rw [IntKind.wrap_u32]
  have hm2 : IntKind.u64.wrap (d.ins.length : Int) = d.ins.length := by rw [IntKind.wrap_u64]; omega
  have hm3 : IntKind.u64.wrap (d.outs.length : Int) = d.outs.length := by rw [IntKind.wrap_u64]; omega
  have hv0 : 0 ≤ d.ver % 4294967296 := by omega
  have hv1 : d.ver % 4294967296 < 4294967296 := by omega
  have hib : insB d.ins = sizeB (d.ins.length : Int) ++ d.ins.flatMap inB := rfl
  have hob : outsB d.outs = sizeB (d.outs.length : Int) ++ d.outs.flatMap outB := rfl
  have hipre : ∀ i, ((d.ins.take i).flatMap inB).length ≤ 1000000000000 := fun i => by
    have := flat_take_le inB d.ins i
    rw [hib, List.length_append] at hf
    omega
  have hopre : ∀ i, ((d.outs.take i).flatMap outB).length ≤ 1000000000000 := fun i => by
    have := flat_take_le outB d.outs i
    rw [hob, List.length_append] at hf
    omega
  have hwpre : ∀ i, ((d.ins.take i).flatMap witB).length ≤ 1000000000000 := fun i => by have := flat_take_le witB d.ins i; omega
  have hsl1 := sizeB_len (d.ins.length : Int)
  have hsl2 := sizeB_len (d.outs.length : Int)
  rw [hib, hob]
  have HIP := Lib.hid hipre; have HOP := Lib.hid hopre; have HWP := Lib.hid hwpre
  clear hipre hopre hwpre hib hob hf
  have HCC := Lib.hid hcc
  clear hcc
  obtain ⟨X, hX⟩ : ∃ X, X = (if c = true then ([0, 1] : List Int) else []) := ⟨_, rfl⟩
  obtain ⟨Y, hY⟩ : ∃ Y, Y = (if c = true then d.ins.flatMap witB else []) := ⟨_, rfl⟩
  rw [← hX, ← hY]
  have hXl : X.length ≤ 2 := by rw [hX]; split <;> simp
  have HX := Lib.hid hX; have HY := Lib.hid hY
  clear hX hY
  have hLVl : (leB (d.ver % 4294967296) 4).length = 4 := leB_length _ _
  generalize hLV : leB (d.ver % 4294967296) 4 = LV at *
  have HLV := Lib.hid hLV
  clear hLV
  generalize d.ver % 4294967296 = vu at *
  go_enter Tryz.func24, Tryz.ntmps24
  go_upto_region 1 with (fail)
  refine wp_rows1 (fun W0 hk hr1 hsz => ?_)
  simp only at hr1
  obtain ⟨p, hp⟩ : ∃ p, p = w.heap.size := ⟨_, rfl⟩
  rw [← hp] at hr1 ⊢
  clear hp hsz
  have HK := Lib.hid hk; have HR := Lib.hid hr1
  clear hk hr1
  go_upto_region 2 with (fail)
  have hw0 : WrAt W0 (W0.alloc (.cells #[.slice none 0 0] 58)) W0.heap.size (.slice none 0 0) 0 [] := ⟨(Own.nil W0).step (keeps_alloc (Keeps.refl _) _), Row.new _ _ _ rfl, Nat.le_refl _, by simp [Value.ownBlock]⟩
  obtain ⟨q, hq⟩ : ∃ q, q = W0.heap.size := ⟨_, rfl⟩
  rw [← hq] at hw0 ⊢
  generalize W0.alloc (.cells #[.slice none 0 0] 58) = W1 at *
  have HW1 := Lib.hid hw0; have HQ := Lib.hid hq
  clear hw0 hq
  obtain ⟨b0, b1, b2, b3⟩ := (HR.out.keeps HW1.out.own.keeps).cell4
  have hcell : ∀ W, Keeps W0 W → W.cell? ⟨p, 0, none⟩ = some (.int .i32 d.ver) ∧ W.cell? ⟨p, 1, none⟩ = some (.slice ia d.ins.length ic) ∧ W.cell? ⟨p, 2, none⟩ = some (.slice oa d.outs.length oc) ∧ W.cell? ⟨p, 3, none⟩ = some (.int .u32 d.lock) := fun W hk => (HR.out.keeps hk).cell4
  have HCE := Lib.hid hcell
  clear hcell
  rcases HCC.out with ⟨rfl, rfl⟩ | ⟨rfl, rfl, hwd⟩ | ⟨rfl, rfl, hwd⟩
  focus
    go_upto_region 3 with (fail)
    have HV2 := HW1
    generalize W1 = W2 at *
  rotate_left
  focus
    rw [hwd] at HW
    go_upto_region 3 with (go_at_call 53; refine (HW.out _ (HK.out.trans HW1.out.own.keeps)).mono ?_; rintro e W2 ⟨rfl, hk2⟩; have HK2 := Lib.hid hk2; clear hk2)
    have HV2 := Lib.hid (HW1.out.keeps HK2.out)
    clear HW1
  rotate_left
  focus
    rw [hwd] at HW
    go_upto_region 3 with (go_at_call 53; refine (HW.out _ (HK.out.trans HW1.out.own.keeps)).mono ?_; rintro e W2 ⟨rfl, hk2⟩; have HK2 := Lib.hid hk2; clear hk2)
    have HV2 := Lib.hid (HW1.out.keeps HK2.out)
    clear HW1
  rotate_left
  all_goals
    clear b0 b1 b2 b3
    obtain ⟨b0, b1, b2, b3⟩ := HCE.out _ HV2.out.own.keeps
    go_upto_region 6 with (first | (go_at_call 26; refine (wu32_any W0 q _ 0 [] vu hv0 hv1 (by omega) _ HV2.out).mono ?_; rintro e W3 ⟨rfl, v3, hv3, hg3⟩; have HV3 := Lib.hid hv3; have HG3 := Lib.hid hg3; clear hv3 hg3) | (go_at_call 21; refine (wraw_any W0 q _ _ _ _ 2 [0, 1] (by omega) _ (HV3.out.keeps (keeps_alloc (Keeps.refl _) _)) (Own.news (Keeps.refl _) [0, 1] (by simp [maxLen]) _ _ rfl).rd).mono ?_; rintro e W3' ⟨rfl, v3', hv3', hg3'⟩; have HV3' := Lib.hid hv3'; clear hv3'))
  all_goals
    clear b0 b1 b2 b3 HW
    refine wp_gen (fun W => ∃ v, WrAt W0 W q v (LV ++ X).length (LV ++ X)) ?_ ?_
    focus
      first
        | exact ⟨_, HV3'.out.norm (by rw [HLV.out, HX.out]; simp)⟩
        | exact ⟨_, HV3.out.norm (by rw [HLV.out, HX.out]; simp)⟩
    intro W4 hj4
    obtain ⟨v4, hv4⟩ := hj4
    have hP0 : (LV ++ X).length ≤ 6 := by rw [List.length_append]; omega
    generalize hPP : LV ++ X = P0 at *
    obtain ⟨b0, b1, b2, b3⟩ := HCE.out _ hv4.own.keeps
    have HV4 := Lib.hid hv4; have HPP := Lib.hid hPP
    clear hv4 hPP
    go_upto_region 7 with (go_at_call 22; refine (wsize_any W0 q _ _ P0 (d.ins.length : Int) (by omega) (by omega) (by omega) _ HV4.out).mono ?_; rintro e W5 ⟨rfl, v5, hv5, hg5⟩; have HV5 := Lib.hid hv5; clear hv5 hg5)
    generalize hSB : sizeB (d.ins.length : Int) = SB at *
    clear b0 b1 b2 b3
    obtain ⟨b0, b1, b2, b3⟩ := HCE.out _ HV5.out.own.keeps
    have hpl1 : (P0 ++ SB).length ≤ 15 := by rw [List.length_append]; omega
    have hv5' := HV5.out.norm rfl
    generalize hP1 : P0 ++ SB = P1 at *
    have HV6 := Lib.hid hv5'; have HP1 := Lib.hid hP1
    clear hv5' hP1 HV5
    go_wp2
    go_loopw [34] (fun c wr => ∃ i : Nat, i ≤ d.ins.length ∧ c = .int .i64 i ∧ ∃ v, WrAt W0 wr q v (P1 ++ (d.ins.take i).flatMap inB).length (P1 ++ (d.ins.take i).flatMap inB)) (fun c _ => (d.ins.length - intOf c).toNat)
    case atStart => exact ⟨0, by omega, rfl, _, HV6.out.norm (by simp)⟩
    case round =>
      obtain ⟨i, hi, rfl, v, hv⟩ := hrel
      by_cases hlt : i < d.ins.length
      · obtain ⟨g, off, sv, wv, di, rfl, hg, hdi, hrow, hrin⟩ := (HI.out.keeps HK.out).at i hlt
        have hstep := take_flat inB d.ins i di hdi
        have hbnd := HIP.out (i + 1)
        rw [hstep, List.length_append] at hbnd
        have HSTEP := Lib.hid hstep
        generalize (d.ins.take i).flatMap inB = PL at *
        have hh32 := hrin.ok.hashLen
        have hlens : (inB di).length = 32 + 4 + (textB di.script).length + 4 := by unfold inB; simp only [List.length_append, leB_length, hh32]
        have hts : di.script.length ≤ (textB di.script).length := by unfold textB; simp
        have hppl : (P1 ++ PL).length = P1.length + PL.length := by simp
        generalize hQ : P1 ++ PL = Q1 at *
        have HHL := Lib.hid hh32; have HROW := Lib.hid hrow; have HRIN := Lib.hid hrin; have HV := Lib.hid hv; have HQ1 := Lib.hid hQ
        have hx0 := hrin.ok.index; have hq0 := hrin.ok.seq
        obtain ⟨ix0, ix1⟩ := hx0; obtain ⟨iq0, iq1⟩ := hq0
        obtain ⟨sa, sc, rfl, -⟩ := hrin.script.any
        obtain ⟨wa, wc, rfl, -⟩ := hrin.wit.any
        rw [hlens] at hbnd
        clear hv hrow hrin hh32 hstep hlens hQ
        generalize htb : textB di.script = TB at *
        go_upto_region 10 with (first | (refine wpList_load_at rfl 100 (.tmp 36) rfl g (off + i * 36) rfl _ _ (HROW.out.keeps HV.out.own.keeps) Tryz.underlying100 rfl (sz_in _ _ _ HHL.out) ?_) | (refine wpList_store_row rfl 100 (.tmp 7) (.tmp 37) rfl _ 0 rfl zeroIn (inCells di _ _) rfl (Row.new _ _ _ rfl) (by rw [inCells_length _ _ _ HHL.out]; rfl) (sz_in _ _ _ HHL.out) (inCells_one _ _ _ rfl rfl) ?_; intro W7 hr7 hc7; have HR7 := Lib.hid hr7; have HC7 := Lib.hid hc7; clear hr7 hc7))
        have hst : WSt W0 W7 q v Q1.length Q1 wr.heap.size (inCells di (.slice sa di.script.length sc) (.slice wa di.wit.length wc)) := WSt.new HV.out (keeps_chg (keeps_alloc (Keeps.refl _) _) HC7.out (Nat.le_refl _)) HR7.out (HR7.out.lt (by unfold inCells; simp))
        generalize wr.heap.size = p7 at *
        have HST := Lib.hid hst
        clear hst HR7 HC7
        obtain ⟨c32, c33, c34, c35⟩ := HST.out.at HHL.out
        go_upto_region 11 with (go_at_call 21; refine (wraw_any W0 q _ _ _ _ 32 di.hash (by omega) _ HST.out.wr (HST.out.hash HHL.out)).mono ?_; rintro e W8 ⟨rfl, v8, hv8, hg8⟩; have hs8 := HST.out.grown hv8 hg8; have HS8 := Lib.hid hs8; clear hv8 hg8 hs8)
        clear c32 c33 c34 c35
        obtain ⟨c32, c33, c34, c35⟩ := HS8.out.at HHL.out
        go_upto_region 12 with (go_at_call 26; refine (wu32_any W0 q _ _ _ di.index ix0 ix1 (by omega) _ HS8.out.wr).mono ?_; rintro e W9 ⟨rfl, v9, hv9, hg9⟩; have hs9 := HS8.out.grown hv9 hg9; have HS9 := Lib.hid hs9; clear hv9 hg9 hs9)
        clear c32 c33 c34 c35
        obtain ⟨c32, c33, c34, c35⟩ := HS9.out.at HHL.out
        have hap := old_apart (W := W9) HRIN.out.script HS.out HK.out (by have := HQ.out; omega) HS9.out.wr
        have hrd9 := (HRIN.out.script.keeps HS9.out.wr.own.keeps).rd
        have HAP := Lib.hid hap; have HRD9 := Lib.hid hrd9
        clear hap hrd9
        go_upto_region 13 with (go_at_call 23; refine (wbytes_any W0 q _ _ _ _ di.script (by omega) _ HS9.out.wr HRD9.out HAP.out).mono ?_; rintro e W10 ⟨rfl, v10, hv10, hg10⟩; have hs10 := HS9.out.grown hv10 hg10; have HS10 := Lib.hid hs10; clear hv10 hg10 hs10)
        rw [htb] at HS10
        clear c32 c33 c34 c35
        obtain ⟨c32, c33, c34, c35⟩ := HS10.out.at HHL.out
        go_wp2_with (go_at_call 26; refine (wu32_any W0 q _ _ _ di.seq iq0 iq1 (by omega) _ HS10.out.wr).mono ?_; rintro e W11 ⟨rfl, v11, hv11, hg11⟩; have HV11 := Lib.hid hv11; clear hv11 hg11)
        go_roundw
        case rel =>
          have e12 : Q1 ++ di.hash ++ leB di.index 4 ++ TB ++ leB di.seq 4 = P1 ++ (d.ins.take (i + 1)).flatMap inB := by
            rw [HSTEP.out, ← htb, inB_eq, ← HQ1.out, List.append_assoc]
          exact ⟨i + 1, by omega, by go_num, _, HV11.out.norm e12⟩
        case measure => simp [intOf]; omega
      · obtain rfl : i = d.ins.length := by omega
        rw [List.take_length] at hv
        have hb9 := HIP.out d.ins.length
        rw [List.take_length] at hb9
        have hpl9 : (P1 ++ d.ins.flatMap inB).length = P1.length + (d.ins.flatMap inB).length := by simp
        generalize hP2 : P1 ++ d.ins.flatMap inB = P2 at *
        have HV12 := Lib.hid hv; have HP2 := Lib.hid hP2
        clear hv hP2
        clear b0 b1 b2 b3
        obtain ⟨b0, b1, b2, b3⟩ := HCE.out _ HV12.out.own.keeps
        go_upto_region 16 with (go_at_call 22; refine (wsize_any W0 q _ _ P2 (d.outs.length : Int) (by omega) (by omega) (by omega) _ HV12.out).mono ?_; rintro e W13 ⟨rfl, v13, hv13, hg13⟩; have HV13 := Lib.hid hv13; clear hv13 hg13)
        clear b0 b1 b2 b3
        obtain ⟨b0, b1, b2, b3⟩ := HCE.out _ HV13.out.own.keeps
        have hv13' := HV13.out.norm rfl
        have hpl13 : (P2 ++ sizeB (d.outs.length : Int)).length = P2.length + (sizeB (d.outs.length : Int)).length := by simp
        generalize hP3 : P2 ++ sizeB (d.outs.length : Int) = P3 at *
        have HV14 := Lib.hid hv13'; have HP3 := Lib.hid hP3
        clear hv13' hP3 HV13
        generalize wr = wA at *
        go_wp2
        go_loopw [61] (fun c wr => ∃ i : Nat, i ≤ d.outs.length ∧ c = .int .i64 i ∧ ∃ v, WrAt W0 wr q v (P3 ++ (d.outs.take i).flatMap outB).length (P3 ++ (d.outs.take i).flatMap outB)) (fun c _ => (d.outs.length - intOf c).toNat)
        case atStart => exact ⟨0, by omega, rfl, _, HV14.out.norm (by simp)⟩
        case round =>
          obtain ⟨i, hi, rfl, v, hv⟩ := hrel
          by_cases hlt2 : i < d.outs.length
          · obtain ⟨g, off, sv, di, rfl, hg, hdi, hrow, hrb, hi64⟩ := (HOU.out.keeps HK.out).at i hlt2
            have hstep := take_flat outB d.outs i di hdi
            have hbnd := HOP.out (i + 1)
            rw [hstep, List.length_append] at hbnd
            have HSTEP := Lib.hid hstep
            generalize (d.outs.take i).flatMap outB = PL at *
            have hlens : (outB di).length = 8 + (textB di.script).length := by unfold outB; simp only [List.length_append, leB_length]
            have hts : di.script.length ≤ (textB di.script).length := by unfold textB; simp
            have hppl : (P3 ++ PL).length = P3.length + PL.length := by simp
            generalize hQ : P3 ++ PL = Q1 at *
            have HROW := Lib.hid hrow; have HRB := Lib.hid hrb; have HV := Lib.hid hv; have HQ1 := Lib.hid hQ
            obtain ⟨sa, sc, rfl, -⟩ := hrb.any
            rw [hlens] at hbnd
            have hm9 : IntKind.u64.wrap di.value = di.value % 18446744073709551616 := by rw [IntKind.wrap_u64]
            have hvu0 : 0 ≤ di.value % 18446744073709551616 := by omega
            have hvu1 : di.value % 18446744073709551616 < 18446744073709551616 := by omega
            clear hv hrow hrb hstep hlens hQ
            generalize htb : textB di.script = TB at *
            generalize hvv : di.value % 18446744073709551616 = vv at *
            go_upto_region 19 with (first | (refine wpList_load_at rfl 102 (.tmp 63) rfl g (off + i * 2) rfl _ _ (HROW.out.keeps HV.out.own.keeps) Tryz.underlying102 rfl (sz_out _ _) ?_) | (refine wpList_store_row rfl 102 (.tmp 9) (.tmp 64) rfl _ 0 rfl [.int .i64 0, .slice none 0 0] (outCells di _) rfl (Row.new _ _ _ rfl) rfl (sz_out _ _) (outCells_one _ _ rfl) ?_; intro W7 hr7 hc7; have HR7 := Lib.hid hr7; have HC7 := Lib.hid hc7; clear hr7 hc7))
            have hst : WSt W0 W7 q v Q1.length Q1 wr.heap.size (outCells di (.slice sa di.script.length sc)) := WSt.new HV.out (keeps_chg (keeps_alloc (Keeps.refl _) _) HC7.out (Nat.le_refl _)) HR7.out (HR7.out.lt (by simp [outCells]))
            generalize wr.heap.size = p7 at *
            have HST := Lib.hid hst
            clear hst HR7 HC7
            obtain ⟨c0, c1⟩ := at_value HST.out.row
            simp only [Nat.zero_add] at c1
            go_upto_region 20 with (go_at_call 54; refine (wu64_any W0 q _ _ _ vv hvu0 hvu1 (by omega) _ HST.out.wr).mono ?_; rintro e W8 ⟨rfl, v8, hv8, hg8⟩; have hs8 := HST.out.grown hv8 hg8; have HS8 := Lib.hid hs8; clear hv8 hg8 hs8)
            clear c0 c1
            obtain ⟨c0, c1⟩ := at_value HS8.out.row
            simp only [Nat.zero_add] at c1
            have hap := old_apart (W := W8) HRB.out HS.out HK.out (by have := HQ.out; omega) HS8.out.wr
            have hrd9 := (HRB.out.keeps HS8.out.wr.own.keeps).rd
            have HAP := Lib.hid hap; have HRD9 := Lib.hid hrd9
            clear hap hrd9
            go_wp2_with (go_at_call 23; refine (wbytes_any W0 q _ _ _ _ di.script (by omega) _ HS8.out.wr HRD9.out HAP.out).mono ?_; rintro e W10 ⟨rfl, v10, hv10, hg10⟩; have HV10 := Lib.hid hv10; clear hv10 hg10)
            go_roundw
            case rel =>
              have e12 : Q1 ++ leB vv 8 ++ textB di.script = P3 ++ (d.outs.take (i + 1)).flatMap outB := by
                rw [HSTEP.out, ← hvv, outB_eq, ← HQ1.out, List.append_assoc]
              exact ⟨i + 1, by omega, by go_num, _, HV10.out.norm e12⟩
            case measure => simp [intOf]; omega
          · obtain rfl : i = d.outs.length := by omega
            rw [List.take_length] at hv
            have hb10 := HOP.out d.outs.length
            rw [List.take_length] at hb10
            have hpl15 : (P3 ++ d.outs.flatMap outB).length = P3.length + (d.outs.flatMap outB).length := by simp
            generalize hP4 : P3 ++ d.outs.flatMap outB = P4 at *
            have HV15 := Lib.hid hv; have HP4 := Lib.hid hP4
            clear hv hP4
            clear b0 b1 b2 b3
            obtain ⟨b0, b1, b2, b3⟩ := HCE.out _ HV15.out.own.keeps
            first
              | (have hYn : Y = [] := by rw [HY.out]; rfl)
                go_wp2_with (first | (go_at_call 26; refine (wu32_any W0 q _ _ P4 d.lock lk0 lk1 (by omega) _ HV15.out).mono ?_; rintro e W16 ⟨rfl, v16, hv16, hg16⟩; have HV16 := Lib.hid hv16; clear hv16 hg16) | (go_at_call 25; refine (wout_any W0 q _ _ _ (by omega) _ HV16.out).mono ?_; rintro e W17 ⟨v17, rfl, hO17⟩; have HO17 := Lib.hid hO17; clear hO17))
                go_ret
                exact ⟨_, _, rfl, (Own.keepsW (HK.out.trans HV16.out.own.keeps) HO17.out).cast (by rw [hYn, ← HP4.out, ← HP3.out, ← HP2.out, ← HP1.out, ← hSB, ← HPP.out]; simp only [List.append_assoc, List.nil_append]) rfl⟩
              | (have hYn : Y = d.ins.flatMap witB := by rw [HY.out]; rfl)
                have HYN := Lib.hid hYn
                clear hYn
                generalize wr = wB at *
                go_wp2
                go_loopw [77] (fun c wr => ∃ i : Nat, i ≤ d.ins.length ∧ c = .int .i64 i ∧ ∃ v, WrAt W0 wr q v (P4 ++ (d.ins.take i).flatMap witB).length (P4 ++ (d.ins.take i).flatMap witB)) (fun c _ => (d.ins.length - intOf c).toNat)
                case atStart => exact ⟨0, by omega, rfl, _, HV15.out.norm (by simp)⟩
                case round =>
                  obtain ⟨i, hi, rfl, v, hv⟩ := hrel
                  by_cases hlt3 : i < d.ins.length
                  · obtain ⟨g, off, sv, wv, di, rfl, hg, hdi, hrow, hrin⟩ := (HI.out.keeps HK.out).at i hlt3
                    have hstep := take_flat witB d.ins i di hdi
                    have hbnd := HWP.out (i + 1)
                    have hib : witB di = sizeB (di.wit.length : Int) ++ di.wit.flatMap textB := rfl
                    rw [hstep, List.length_append, hib, List.length_append] at hbnd
                    have HSTEP := Lib.hid hstep; have HIB := Lib.hid hib
                    generalize (d.ins.take i).flatMap witB = PL at *
                    have hppl : (P4 ++ PL).length = P4.length + PL.length := by simp
                    generalize hQ : P4 ++ PL = Q1 at *
                    have hwsm : di.wit.length * 24 ≤ 140737488355328 := by obtain ⟨_, h⟩ := hrin.wit; exact h.small
                    have hmw : IntKind.u64.wrap (di.wit.length : Int) = di.wit.length := by rw [IntKind.wrap_u64]; omega
                    have HHL := Lib.hid hrin.ok.hashLen
                    have HROW := Lib.hid hrow; have HRIN := Lib.hid hrin; have HV := Lib.hid hv; have HQ1 := Lib.hid hQ
                    obtain ⟨sa, sc, rfl, -⟩ := hrin.script.any
                    obtain ⟨wa, wc, rfl, hwc, hwcm, -⟩ := hrin.wit.any
                    clear hv hrow hrin hstep hib hQ
                    go_upto_region 26 with (first | (refine wpList_load_at rfl 100 (.tmp 79) rfl g (off + i * 36) rfl _ _ (HROW.out.keeps HV.out.own.keeps) Tryz.underlying100 rfl (sz_in _ _ _ HHL.out) ?_) | (refine wpList_store_row rfl 100 (.tmp 11) (.tmp 80) rfl _ 0 rfl zeroIn (inCells di _ _) rfl (Row.new _ _ _ rfl) (by rw [inCells_length _ _ _ HHL.out]; rfl) (sz_in _ _ _ HHL.out) (inCells_one _ _ _ rfl rfl) ?_; intro W7 hr7 hc7; have HR7 := Lib.hid hr7; have HC7 := Lib.hid hc7; clear hr7 hc7))
                    have hst : WSt W0 W7 q v Q1.length Q1 wr.heap.size (inCells di (.slice sa di.script.length sc) (.slice wa di.wit.length wc)) := WSt.new HV.out (keeps_chg (keeps_alloc (Keeps.refl _) _) HC7.out (Nat.le_refl _)) HR7.out (HR7.out.lt (by unfold inCells; simp))
                    generalize wr.heap.size = p7 at *
                    have HST := Lib.hid hst
                    clear hst HR7 HC7
                    obtain ⟨c32, c33, c34, c35⟩ := HST.out.at HHL.out
                    go_upto_region 27 with (go_at_call 22; refine (wsize_any W0 q _ _ Q1 (di.wit.length : Int) (by omega) (by omega) (by omega) _ HST.out.wr).mono ?_; rintro e W8 ⟨rfl, v8, hv8, hg8⟩; have hs8 := HST.out.grown hv8 hg8; have HS8 := Lib.hid hs8; clear hv8 hg8 hs8)
                    clear c32 c33 c34 c35
                    obtain ⟨c32, c33, c34, c35⟩ := HS8.out.at HHL.out
                    have hsl9 := sizeB_len (di.wit.length : Int)
                    have hv8' := HS8.out.wr.norm rfl
                    have hpl9' : (Q1 ++ sizeB (di.wit.length : Int)).length = Q1.length + (sizeB (di.wit.length : Int)).length := by simp
                    generalize hPS : Q1 ++ sizeB (di.wit.length : Int) = PS at *
                    have HV8 := Lib.hid hv8'; have HPS := Lib.hid hPS
                    clear hv8' hPS
                    have hpre2 : ∀ k, ((di.wit.take k).flatMap textB).length ≤ 1000000000000 := fun k => by
                      have h1 := flat_take_le textB di.wit k
                      omega
                    have HPRE2 := Lib.hid hpre2
                    clear hpre2
                    generalize wr = wC at *
                    go_wp2
                    go_loopw [89] (fun c wr => ∃ k : Nat, k ≤ di.wit.length ∧ c = .int .i64 k ∧ ∃ v, WrAt W0 wr q v (PS ++ (di.wit.take k).flatMap textB).length (PS ++ (di.wit.take k).flatMap textB)) (fun c _ => (di.wit.length - intOf c).toNat)
                    case atStart => exact ⟨0, by omega, rfl, _, HV8.out.norm (by simp)⟩
                    case round =>
                      obtain ⟨k, hk, rfl, v, hv⟩ := hrel
                      by_cases hlt4 : k < di.wit.length
                      · obtain ⟨gw, ow, u, rfl, hgw, hcu, hru⟩ := HRIN.out.wit.at k hlt4
                        obtain ⟨lk, hlk⟩ : ∃ lk, di.wit[k]? = some lk := ⟨di.wit[k], List.getElem?_eq_getElem hlt4⟩
                        have hgd : di.wit.getD k [] = lk := by simp only [List.getD, hlk, Option.getD_some]
                        rw [hgd] at hru
                        have hstep := take_flat textB di.wit k lk hlk
                        have hb2 := HPRE2.out (k + 1)
                        rw [hstep, List.length_append] at hb2
                        have HSTEP2 := Lib.hid hstep
                        have hcu2 := (hv.own.keeps.cell (p := ⟨gw, ow + k, none⟩) hgw).trans hcu
                        generalize (di.wit.take k).flatMap textB = QL at *
                        have hts : lk.length ≤ (textB lk).length := by unfold textB; simp
                        obtain ⟨ua, uc, rfl, -⟩ := hru.any
                        have hqq : (PS ++ QL).length = PS.length + QL.length := by simp
                        generalize hPX : PS ++ QL = PX at *
                        have HRU := Lib.hid hru; have HV9 := Lib.hid hv; have HPX := Lib.hid hPX
                        clear hru hv hstep hcu hlk hgd hPX
                        have hap := old_apart (W := wr) HRU.out HS.out HK.out (by have := HQ.out; omega) HV9.out
                        have hrd9 := (HRU.out.keeps HV9.out.own.keeps).rd
                        have HAP := Lib.hid hap; have HRD9 := Lib.hid hrd9
                        clear hap hrd9
                        go_wp2_with (go_at_call 23; refine (wbytes_any W0 q _ _ _ _ lk (by omega) _ HV9.out HRD9.out HAP.out).mono ?_; rintro e W10 ⟨rfl, v10, hv10, hg10⟩; have HV10 := Lib.hid hv10; clear hv10 hg10)
                        go_roundw
                        case rel => exact ⟨k + 1, by omega, by go_num, _, HV10.out.norm (by rw [HSTEP2.out, ← HPX.out, List.append_assoc])⟩
                        case measure => simp [intOf]; omega
                      · obtain rfl : k = di.wit.length := by omega
                        rw [List.take_length] at hv
                        have HV9 := Lib.hid hv
                        clear hv
                        go_wp2
                        go_roundw
                        case rel => exact ⟨i + 1, by omega, by go_num, _, HV9.out.norm (by rw [HSTEP.out, HIB.out, ← HPS.out, ← HQ1.out]; simp only [List.append_assoc])⟩
                        case measure => simp [intOf]; omega
                  · obtain rfl : i = d.ins.length := by omega
                    have hb11 := HWP.out d.ins.length
                    rw [List.take_length] at hv hb11
                    have hpl16 : (P4 ++ d.ins.flatMap witB).length = P4.length + (d.ins.flatMap witB).length := by simp
                    generalize hP5 : P4 ++ d.ins.flatMap witB = P5 at *
                    have HV18 := Lib.hid hv; have HP5 := Lib.hid hP5
                    clear hv hP5
                    clear b0 b1 b2 b3
                    obtain ⟨b0, b1, b2, b3⟩ := HCE.out _ HV18.out.own.keeps
                    go_wp2_with (first | (go_at_call 26; refine (wu32_any W0 q _ _ P5 d.lock lk0 lk1 (by omega) _ HV18.out).mono ?_; rintro e W16 ⟨rfl, v16, hv16, hg16⟩; have HV16 := Lib.hid hv16; clear hv16 hg16) | (go_at_call 25; refine (wout_any W0 q _ _ _ (by omega) _ HV16.out).mono ?_; rintro e W17 ⟨v17, rfl, hO17⟩; have HO17 := Lib.hid hO17; clear hO17))
                    go_ret
                    exact ⟨_, _, rfl, (Own.keepsW (HK.out.trans HV16.out.own.keeps) HO17.out).cast (by rw [HYN.out, ← HP5.out, ← HP4.out, ← HP3.out, ← HP2.out, ← HP1.out, ← hSB, ← HPP.out]; simp only [List.append_assoc, List.nil_append]) rfl⟩
theorem enc_any (S T R : Nat → Prop) (d : TxD) (iv ov : Value) (wit : Bool) (hf : Fits d) (w : World) (h : RTx S T R w iv ov d) (hS : ∀ g, S g → g < w.heap.size) :
    Calls Tryz.prog 24 #[.agg #[.int .i32 d.ver, iv, ov, .int .u32 d.lock], .bool wit] w fun e w' => ∃ v, e = .returned v ∧ Own w w' v (encB d wit).length (encB d wit) := by
  refine (enc_core S T R d iv ov wit (wit && witnessedD d) ?_ hf w h hS).mono ?_
  · cases wit
    · exact .inl ⟨rfl, rfl⟩
    · cases hw : witnessedD d
      · exact .inr (.inr ⟨rfl, rfl, rfl⟩)
      · exact .inr (.inl ⟨rfl, rfl, rfl⟩)
  · rintro e w' ⟨v, n, rfl, hO⟩
    exact ⟨v, rfl, hO.cast rfl hO.len.symm⟩
end Go.Proofs.YtcodpdpeklammaaGreatDoor
