/- tx.reader's tx: the walk. -/
import Derived.Test.YtcodpdpeklammaaGreatDoorGC1
namespace Go.Proofs.YtcodpdpeklammaaGreatDoor
set_option linter.unusedVariables false
set_option linter.unusedSimpArgs false
open Go Go.RowKit
variable {B : Nat}
/-- what tx does -/
def TxT (B : Nat) (g : Nat) (l : List Int) (w : World) (r : Ending) (W : World) : Prop :=
  Chg (· = g) w W ∧ ((∃ d iv ov l', rdTx l = .ok (d, l') ∧ r = .returned (.agg #[.int .i32 d.ver, iv, ov, .int .u32 d.lock]) ∧ I32 d.ver ∧ U32 d.lock ∧ GotI w.heap.size W.heap.size W iv d.ins ∧ GotO w.heap.size W.heap.size W ov d.outs) ∨ (∃ c, rdTx l = .error c ∧ r = .panicked (stopT c)))
/-- tx's memory: its receiver, its result, its transaction -/
structure TxSt (B p q g : Nat) (W : World) (v : Value) (l : List Int) (a b c d : Value) : Prop where
  box : Row W p 0 [.pointer (some ⟨g, 0, none⟩)]
  res : Row W (p + 1) 0 [.int .i32 0, .slice none 0 0, .slice none 0 0, .int .u32 0]
  loc : Row W q 0 [a, b, c, d]
  lt : p + 1 < q ∧ q < W.heap.size
  gp : g < p ∧ B ≤ p
  rd : RdAt B W g v 0 l
theorem TxSt.next {p q g : Nat} {W W' : World} {v v' : Value} {l l' : List Int} {a b c d : Value} (h : TxSt B p q g W v l a b c d) (hc : Chg (· = g) W W') (hr : RdAt B W' g v' 0 l') : TxSt B p q g W' v' l' a b c d := by
  have := h.gp.1
  have := h.lt
  exact ⟨h.box.chg hc (by omega), h.res.chg hc (by omega), h.loc.chg hc (by omega), ⟨this.1, Nat.lt_of_lt_of_le this.2 hc.size⟩, h.gp, hr⟩
theorem TxSt.drew {p q g : Nat} {W : World} {v : Value} {l : List Int} {a b c d : Value} (h : TxSt B p q g W v l a b c d) : TxSt B p q g W.drew v l a b c d :=
  h.next ((keeps_drew (Keeps.refl _)).chg _) (h.rd.keeps (keeps_drew (Keeps.refl _)))
theorem TxSt.c0 {p q g : Nat} {W : World} {v : Value} {l : List Int} {a b c d : Value} (h : TxSt B p q g W v l a b c d) : W.cell? ⟨p, 0, none⟩ = some (.pointer (some ⟨g, 0, none⟩)) := by
  have := (h.box 0 _ rfl).1; simpa using this
theorem TxSt.size {p q g : Nat} {W : World} {v : Value} {l : List Int} {a b c d : Value} (h : TxSt B p q g W v l a b c d) : B ≤ W.heap.size ∧ g < W.heap.size := by
  have := h.gp
  have := h.lt
  omega
theorem TxSt.cells {p q g : Nat} {W : World} {v : Value} {l : List Int} {a b c d : Value} (h : TxSt B p q g W v l a b c d) :
    (W.cell? ⟨q, 0, none⟩ = some a ∧ W.cell? ⟨q, 1, none⟩ = some b ∧ W.cell? ⟨q, 2, none⟩ = some c ∧ W.cell? ⟨q, 3, none⟩ = some d) ∧ W.frozen? ⟨q, 1, none⟩ = false ∧ W.frozen? ⟨q, 2, none⟩ = false ∧ W.frozen? ⟨q, 3, none⟩ = false := by
  refine ⟨h.loc.cell4, ?_, ?_, ?_⟩
  · have := (h.loc 1 _ rfl).2; simpa using this
  · have := (h.loc 2 _ rfl).2; simpa using this
  · have := (h.loc 3 _ rfl).2; simpa using this
theorem TxSt.put {p q g : Nat} {W : World} {v : Value} {l : List Int} {a b c d a' b' c' d' : Value} (h : TxSt B p q g W v l a b c d) (k : Nat) (hk : k < 4) (u : Value) (hu : [a, b, c, d].set k u = [a', b', c', d']) : TxSt B p q g (W.setCell ⟨q, k, none⟩ u) v l a' b' c' d' := by
  have h1 := h.gp
  have h2 := h.lt
  refine ⟨h.box.other (by show p ≠ q; omega) u, h.res.other (by show p + 1 ≠ q; omega) u, ?_, by simpa using h2, h1, h.rd.other (by show B ≤ q; omega) (by show g ≠ q; omega) u⟩
  have := h.loc.set k (by simpa using hk) u
  rwa [Nat.zero_add, hu] at this
theorem at35 {w : World} {b o : Nat} {d : InD} {sv wv : Value} (h : Row w b o (inCells d sv wv)) (hl : d.hash.length = 32) : w.cell? ⟨b, o + 35, none⟩ = some wv ∧ w.frozen? ⟨b, o + 35, none⟩ = false :=
  h 35 _ (by unfold inCells; rw [List.getElem?_append_right (by simp [hl])]; simp [hl])
theorem GotO.up {base N N' : Nat} {W : World} {v : Value} {l : List OutD} (h : GotO base N W v l) (hN : N ≤ N') (hN' : N' ≤ W.heap.size) : GotO base N' W v l :=
  ⟨h.1.mono (fun g hg => ⟨hg.1, Nat.lt_of_lt_of_le hg.2 hN⟩) (fun g hg => ⟨hg.1, Nat.lt_of_lt_of_le hg.2 hN⟩), hN'⟩
theorem got_rtx {b1 n1 b2 n2 : Nat} {W : World} {iv ov : Value} {d : TxD} (hv : I32 d.ver) (hl : U32 d.lock) (hi : GotI b1 n1 W iv d.ins) (ho : GotO b2 n2 W ov d.outs) : RTx AnyB AnyB AnyB W iv ov d :=
  ⟨hv, hl, hi.ins.mono (fun _ _ => trivial) (fun _ _ => trivial) (fun _ _ => trivial), ho.1.mono (fun _ _ => trivial) (fun _ _ => trivial)⟩
/-- where the loop over the witnesses stands -/
def WitSt (B bI bO nO p q g : Nat) (l l8 : List Int) (ins : List InD) (outs : List OutD) (a b c d : Value) (w W : World) (i : Nat) : Prop :=
  ∃ xs v' l', Chg (· = g) w W ∧ TxSt B p q g W v' l' a b c d ∧ rdWits ins i l8 = .ok (xs, l') ∧ GotI bI W.heap.size W b (xs ++ ins.drop i) ∧ GotO bO nO W c outs
set_option maxRecDepth 100000 in
set_option maxHeartbeats 4000000 in
theorem tx_t (g : Nat) (v : Value) (l : List Int) (w : World) (h : RdAt B w g v 0 l) (hB : B ≤ w.heap.size) (hg : g < w.heap.size) :
    Calls Tryz.prog 70 #[rdV g] w (TxT B g l w) := by
  have HBG := Lib.hid (And.intro hB hg)
  have HH := Lib.hid h
  clear h
  unfold rdV
  go_enter Tryz.func70, Tryz.ntmps70
  go_upto_region 1 with (fail)
  refine wp_rows2 (fun W0 hk hr1 hr2 hsz => ?_)
  simp only at hr1 hr2
  obtain ⟨p, hp⟩ : ∃ p, p = w.heap.size := ⟨_, rfl⟩
  rw [← hp] at hr1 hr2 hsz ⊢
  have HP := Lib.hid hp; have HSZ := Lib.hid hsz
  have c0 : W0.cell? ⟨p, 0, none⟩ = some (.pointer (some ⟨g, 0, none⟩)) := by have := (hr1 0 _ rfl).1; simpa using this
  have HRD := Lib.hid (HH.out.keeps hk)
  have HK := Lib.hid hk; have HR1 := Lib.hid hr1; have HR2 := Lib.hid hr2
  have hgp : g < p := by omega
  have hBp : B ≤ p := by omega
  have HGP := Lib.hid (And.intro hgp hBp)
  clear hk hr1 hr2 hp hsz hB hg hgp hBp
  go_upto_region 2 with (go_at_call 99; refine (number_t g v l W0 HRD.out (by have := HGP.out; have := HSZ.out; omega) (by have := HGP.out; have := HSZ.out; omega)).mono ?_; rintro r W1 ⟨hc1, hcs⟩; have HC1 := Lib.hid hc1; clear hc1; rcases hcs with ⟨x1, val1, v1, l1, hp1, rfl, rfl, hr1⟩ | ⟨c1, hp1, rfl⟩)
  rotate_left
  · exact ⟨rfl, (HK.out.chg _).trans HC1.out, .inr ⟨c1, tx_e1 hp1, rfl⟩⟩
  obtain ⟨y0, y1, -, -, -⟩ := rdNum_inv HRD.out.bytes hp1
  simp only [Int.reducePow] at y1
  have hver : wrap32 x1 = toI32 x1 := by unfold wrap32 toI32; split <;> omega
  have hi32 := toI32_range y0 y1
  rw [hver]
  have hk2 : Keeps W1 (W1.alloc (.cells #[.int .i32 (toI32 x1), .slice none 0 0, .slice none 0 0, .int .u32 0] 46)) := (Keeps.refl _).alloc (Nat.le_refl _) _
  have hst2 : TxSt B p W1.heap.size g (W1.alloc (.cells #[.int .i32 (toI32 x1), .slice none 0 0, .slice none 0 0, .int .u32 0] 46)) v1 l1 (.int .i32 (toI32 x1)) (.slice none 0 0) (.slice none 0 0) (.int .u32 0) := by
    have h1 := HC1.out.size
    have h2 := HSZ.out
    have h3 := HGP.out
    exact ⟨(HR1.out.chg HC1.out (by omega)).alloc _, (HR2.out.chg HC1.out (by omega)).alloc _, Row.new _ _ _ rfl, ⟨by omega, by simp⟩, h3, hr1.keeps hk2⟩
  have hch2 := ((HK.out.chg _).trans HC1.out).trans (hk2.chg _)
  have hqw : w.heap.size < W1.heap.size := by have h1 := HC1.out.size; have h2 := HSZ.out; have h3 := HP.out; omega
  have HST2 := Lib.hid hst2; have HCH2 := Lib.hid hch2; have HP1 := Lib.hid hp1; have HI32 := Lib.hid hi32
  clear hst2 hch2 hp1 hk2 hr1 hver y0 y1 hi32 c0 HRD HC1 HR1 HR2 HK HSZ
  generalize W1.alloc (.cells #[.int .i32 (toI32 x1), .slice none 0 0, .slice none 0 0, .int .u32 0] 46) = W2 at *
  generalize W1.heap.size = q at *
  have HQW := Lib.hid hqw
  clear hqw
  have c2 := HST2.out.c0
  go_upto_region 4 with (go_at_call 100; refine (count_t g v1 l1 W2 HST2.out.rd HST2.out.size.1 HST2.out.size.2).mono ?_; rintro r W3 ⟨hc3, hcs⟩; have HC3 := Lib.hid hc3; clear hc3; rcases hcs with ⟨n, val3, v3, l3, hp3, rfl, rfl, hr3⟩ | ⟨c3, hp3, rfl⟩)
  rotate_left
  · exact ⟨rfl, HCH2.out.trans HC3.out, .inr ⟨c3, tx_e2 HP1.out hp3, rfl⟩⟩
  have hn := (rdCount_inv HST2.out.rd.bytes hp3).1
  have hst3 := HST2.out.next HC3.out hr3
  have HST3 := Lib.hid hst3; have HCH3 := Lib.hid (HCH2.out.trans HC3.out); have HP3 := Lib.hid hp3; have HN := Lib.hid hn
  clear hst3 hr3 hp3 hn c2 HST2 HC3 HCH2
  generalize hsec : ((n : Int) == 0) = second
  have HSEC := Lib.hid hsec
  clear hsec
  have c3 := HST3.out.c0
  rename_i K1 hK1 K0 hK0
  refine wp_join2 [4, 6, 16, 17, 18, 19, 20, 21, 22, 23, 24, 25, 26, 27] (fun us W => ∃ (m : Nat) (v' : Value) (l' : List Int), us.getD 0 undef = .int .i64 m ∧ m ≤ 25000 ∧ Chg (· = g) w W ∧ TxSt B p q g W v' l' (.int .i32 (toI32 x1)) (.slice none 0 0) (.slice none 0 0) (.int .u32 0) ∧ rdTx l = rdRest (toI32 x1) second m l') hK1 (fun key0 => ?_) ?_
  focus
    have key := fun u1 u2 u3 u4 u5 u6 u7 u8 u9 u10 u11 u12 u13 u14 w' => key0 [u1, u2, u3, u4, u5, u6, u7, u8, u9, u10, u11, u12, u13, u14] w' rfl
    clear key0 hK1
    simp only [putAll, Act.put, List.setIfInBounds_toArray, List.set_cons_zero, List.set_cons_succ] at key
    have KEY := Lib.hid key
    clear key
    cases second
    focus
      have hn0 : n ≠ 0 := fun e => by have := HSEC.out; rw [e] at this; cases this
      go_wp2
      refine KEY.out _ _ _ _ _ _ _ _ _ _ _ _ _ _ _ ?_
      exact ⟨n, v3, l3, rfl, HN.out, HCH3.out, HST3.out, tx_plain HP1.out HP3.out hn0⟩
    focus
      have hn0 := Lib.hid (show n = 0 by have := HSEC.out; simpa using this)
      go_upto_region 6 with (go_at_call 101; refine (rdr_u8_any g v3 0 l3 W3 HST3.out.rd HST3.out.size.1 HST3.out.size.2).mono ?_; rintro r W4 ⟨hc4, hcase⟩; have HC4 := Lib.hid hc4; clear hc4; rcases hcase with ⟨h0, _⟩ | ⟨_, f, val4, v4, l4, hp4, rfl, rfl, hr4⟩ | ⟨_, c4, hp4, rfl, hr4⟩; exact absurd rfl h0)
      rotate_left
      focus
        have hst4 := HST3.out.box.chg HC4.out (by have := HST3.out.gp; omega)
        have c4' : W4.cell? ⟨p, 0, none⟩ = some (.pointer (some ⟨g, 0, none⟩)) := by have := (hst4 0 _ rfl).1; simpa using this
        clear hst4
        go_wp2_with (go_at_call 102; refine (fine_no g _ _ (rdNum_err hp4) _ _ hr4).mono ?_; rintro r W5 ⟨rfl, hk5⟩)
        exact ⟨rfl, HCH3.out.trans (HC4.out.trans (hk5.chg _)), .inr ⟨c4, tx_e3 HP1.out (by have := HP3.out; rwa [hn0.out] at this) hp4, rfl⟩⟩
      have hst4 := HST3.out.next HC4.out hr4
      have HST4 := Lib.hid hst4; have HCH4 := Lib.hid (HCH3.out.trans HC4.out); have HP4 := Lib.hid hp4
      clear hst4 hr4 hp4 HC4 c3
      have c4 := HST4.out.c0
      go_upto_region 7 with (go_at_call 102; refine (fine_ok g _ _ _ HST4.out.rd).mono ?_; rintro r W5 ⟨rfl, hk5⟩)
      have hst5 := HST4.out.next (hk5.chg _) (HST4.out.rd.keeps hk5)
      have HST5 := Lib.hid hst5; have HCH5 := Lib.hid (HCH4.out.trans (hk5.chg _))
      clear hst5 hk5 HST4 HCH4 c4
      have c5 := HST5.out.c0
      by_cases hf : f = 1
      focus
        subst hf
        go_upto_region 8 with (go_at_call 103; refine (must_no g _ _).mono ?_; rintro r W6 ⟨rfl, hk6⟩)
        have hst6 := HST5.out.next (hk6.chg _) (HST5.out.rd.keeps hk6)
        have HST6 := Lib.hid hst6; have HCH6 := Lib.hid (HCH5.out.trans (hk6.chg _))
        clear hst6 hk6 HST5 HCH5 c5
        have c6 := HST6.out.c0
        go_wp2_with (go_at_call 100; refine (count_t g v4 l4 W6 HST6.out.rd HST6.out.size.1 HST6.out.size.2).mono ?_; rintro r W7 ⟨hc7, hcs⟩; have HC7 := Lib.hid hc7; clear hc7; rcases hcs with ⟨m, val7, v7, l7, hp7, rfl, rfl, hr7⟩ | ⟨c7, hp7, rfl⟩)
        focus
          refine KEY.out _ _ _ _ _ _ _ _ _ _ _ _ _ _ _ ?_
          exact ⟨m, v7, l7, rfl, (rdCount_inv HST6.out.rd.bytes hp7).1, HCH6.out.trans HC7.out, HST6.out.next HC7.out hr7, tx_second HP1.out (by have := HP3.out; rwa [hn0.out] at this) HP4.out hp7⟩
        focus
          exact ⟨rfl, HCH6.out.trans HC7.out, .inr ⟨c7, tx_e5 HP1.out (by have := HP3.out; rwa [hn0.out] at this) HP4.out hp7, rfl⟩⟩
      focus
        have HF := Lib.hid hf
        clear hf
        go_wp2_with (go_at_call 103; (try rw [show (f != 1) = true from by simpa using HF.out]); refine (must_yes g _ _).mono ?_; rintro r W6 ⟨rfl, hk6⟩)
        exact ⟨rfl, HCH5.out.trans (hk6.chg _), .inr ⟨3, tx_e4 HP1.out (by have := HP3.out; rwa [hn0.out] at this) HP4.out HF.out, rfl⟩⟩
  intro us W4 hl hj
  match us, hl with
  | [u1, u2, u3, u4, u5, u6, u7, u8, u9, u10, u11, u12, u13, u14], _ =>
  obtain ⟨m, v4, l4, hu, hm, hch4, hst4, he4⟩ := hj
  obtain rfl : u1 = .int .i64 m := hu
  simp only [putAll, Act.put, List.setIfInBounds_toArray, List.set_cons_zero, List.set_cons_succ]
  have HST4 := Lib.hid hst4; have HCH4 := Lib.hid hch4; have HE4 := Lib.hid he4; have HM := Lib.hid hm
  clear hst4 hch4 he4 hm hK1 K1 hK0 K0 HST3 HCH3 HP3 HN HSEC c3 HP1 hl
  have hmf : ∀ (fn : Fn) (first cap : Array Value) (w : World), (Instr.makeFunc fn first cap).run Tryz.prog w = .ok (.func fn first cap) w := fun _ _ _ _ => rfl
  have c4 := HST4.out.c0
  go_upto_region 10 with (go_at_call 104; refine (list_in_gen 105 _ input_run g (fun v l W h hB hg => input_t g v l W h hB hg) v4 l4 m HM.out W4 HST4.out.rd HST4.out.size.1 HST4.out.size.2).mono ?_; rintro r W5 ⟨hc5, hcs⟩; have HC5 := Lib.hid hc5; clear hc5; rcases hcs with ⟨ins, iv, v5, l5, hp5, rfl, henc5, hr5⟩ | ⟨c5, hp5, rfl⟩; have hst5 := HST4.out.next HC5.out hr5; obtain ⟨S5, T5, cs5, ps5, hown5⟩ := henc5; obtain ⟨ia, ic, rfl⟩ := hown5.any; obtain ⟨⟨e0, e1, e2, e3⟩, f1, f2, f3⟩ := hst5.cells; have HST5 := Lib.hid hst5; have HOWN5 := Lib.hid hown5; have HP5 := Lib.hid hp5; clear hst5 hown5 hp5 hr5)
  rotate_left
  focus exact ⟨rfl, HCH4.out.trans HC5.out, .inr ⟨c5, HE4.out.trans (rest_e1 hp5), rfl⟩⟩
  have hil := rdMany_len _ _ _ _ HP5.out
  have hst6 := HST5.out.put 1 (by omega) (.slice ia ins.length ic) rfl
  have hch6 := (HCH4.out.trans HC5.out).setCell (p := ⟨q, 1, none⟩) (.inl (by have := HQW.out; show w.heap.size ≤ q; omega)) (.slice ia ins.length ic)
  have hgi6 : GotI W4.heap.size W5.heap.size (W5.setCell ⟨q, 1, none⟩ (.slice ia ins.length ic)) (.slice ia ins.length ic) ins := (HOWN5.out.got (by have := HM.out; omega)).chg (X := (· = q)) (Chg.cell q 1 _) (fun k e => .inl (by have := HST4.out.lt; omega))
  have hb6 : q < W4.heap.size ∧ W4.heap.size ≤ W5.heap.size ∧ W5.heap.size ≤ (W5.setCell ⟨q, 1, none⟩ (.slice ia ins.length ic)).heap.size := ⟨HST4.out.lt.2, HC5.out.size, by simp⟩
  have HST6 := Lib.hid hst6; have HCH6 := Lib.hid hch6; have HGI6 := Lib.hid hgi6; have HB6 := Lib.hid hb6; have HIL := Lib.hid (show ins.length ≤ 25000 by have := HM.out; omega)
  have HE6 := Lib.hid (HE4.out.trans (rest_ok1 HP5.out))
  clear hst6 hch6 hgi6 hb6 hil e0 e1 e2 e3 f1 f2 f3 c4 HST4 HCH4 HE4 HM HST5 HOWN5 HP5 HC5
  generalize W5.setCell ⟨q, 1, none⟩ (.slice ia ins.length ic) = W6 at *
  generalize W4.heap.size = bI at *
  generalize W5.heap.size = nI at *
  refine wp_region_head (S := fun W => Hid ((fun W => Row W p 0 [.pointer (some ⟨g, 0, none⟩)]) W)) 5 (by kernel_rfl) (by kernel_rfl) ?_ (fun hHeld => ?_)
  focus exact Lib.hid HST6.out.drew.box
  refine wpAnyHL_take (i := 0) (oi := ?_) (v := ?_) ?_ ?_ ?_ ?_ ?_ ?_ ?_ ?_ ?_ (Or.inl ⟨?_, ?_⟩) ?_ ?_
  rotate_left 2
  focus (simp only [List.getElem?_toArray, List.getElem?_cons_succ, List.getElem?_cons_zero]; exact rfl)
  iterate 7 focus kernel_rfl
  focus (exact fun _ _ _ h => h)
  focus rfl
  focus (intro wSw hSw; (have hSw := hSw.out); (refine run_load_row 125 (.tmp 1) ?_ p 0 ?_ _ _ hSw Tryz.underlying125 rfl rfl) <;> rfl)
  focus assumption
  try simp only [Act.put, List.setIfInBounds_toArray, List.set_cons_zero, List.set_cons_succ]
  refine wpAnyHL_take (i := 2) (oi := ?_) (v := ?_) ?_ ?_ ?_ ?_ ?_ ?_ ?_ ?_ ?_ (Or.inl ⟨?_, ?_⟩) ?_ ?_
  rotate_left 2
  focus (simp only [List.getElem?_toArray, List.getElem?_cons_succ, List.getElem?_cons_zero]; exact rfl)
  iterate 7 focus kernel_rfl
  focus (exact fun _ _ _ h => h)
  focus rfl
  focus (intro wSw hSw; (have hSw := hSw.out); (refine run_load_row 125 (.tmp 1) ?_ p 0 ?_ _ _ hSw Tryz.underlying125 rfl rfl) <;> rfl)
  focus assumption
  try simp only [Act.put, List.setIfInBounds_toArray, List.set_cons_zero, List.set_cons_succ]
  refine wpAnyHL_take (i := 3) (oi := ?_) (v := ?_) ?_ ?_ ?_ ?_ ?_ ?_ ?_ ?_ ?_ (Or.inl ⟨?_, ?_⟩) ?_ ?_
  rotate_left 2
  focus (simp only [List.getElem?_toArray, List.getElem?_cons_succ, List.getElem?_cons_zero]; exact rfl)
  iterate 7 focus kernel_rfl
  focus (exact fun _ _ _ h => h)
  focus rfl
  focus ((intro wSw hSw; (have hSw := hSw.out); (try dsimp only at hSw); go_simp) <;> with_reducible rfl)
  focus assumption
  try simp only [Act.put, List.setIfInBounds_toArray, List.set_cons_zero, List.set_cons_succ]
  refine wpAnyHL_one (i := 1) (o := ?_) (by kernel_rfl) (by kernel_rfl) ?_ ?_
  rotate_left 1
  focus (simp only [List.getElem?_toArray, List.getElem?_cons_succ, List.getElem?_cons_zero]; exact rfl)
  go_wp2_with (go_at_call 100; refine (count_t g v5 l5 W6.drew HST6.out.drew.rd HST6.out.drew.size.1 HST6.out.drew.size.2).mono ?_; rintro r W7 ⟨hc7, hcs⟩; have HC7 := Lib.hid hc7; clear hc7; rcases hcs with ⟨k, val7, v7, l7, hp7, rfl, rfl, hr7⟩ | ⟨c7, hp7, rfl⟩)
  rotate_left
  focus exact ⟨rfl, HCH6.out.drew.trans HC7.out, .inr ⟨c7, HE6.out.trans (rest_e2 hp7), rfl⟩⟩
  have hst7 := HST6.out.drew.next HC7.out hr7
  have HST7 := Lib.hid hst7; have HP7 := Lib.hid hp7; have HK7 := Lib.hid (rdCount_inv HST6.out.rd.bytes hp7).1
  clear hst7 hp7 hr7
  try dsimp only [StepQ]
  refine ⟨?_, fun hHeld => ?_⟩
  focus (exact Lib.hid (HST7.out.box))
  try simp only [Act.put, List.setIfInBounds_toArray, List.set_cons_zero, List.set_cons_succ]
  refine wpAnyHL_one (i := 4) (o := ?_) (by kernel_rfl) (by kernel_rfl) ?_ ?_
  rotate_left 1
  focus (simp only [List.getElem?_toArray, List.getElem?_cons_succ, List.getElem?_cons_zero]; exact rfl)
  go_wp2_with (go_at_call 106; refine (list_out_gen 107 _ output_run g (fun v l W h hB hg => output_t g v l W h hB hg) v7 l7 k HK7.out W7 HST7.out.rd HST7.out.size.1 HST7.out.size.2).mono ?_; rintro r W8 ⟨hc8, hcs⟩; have HC8 := Lib.hid hc8; clear hc8; rcases hcs with ⟨outs, ov, v8, l8, hp8, rfl, henc8, hr8⟩ | ⟨c8, hp8, rfl⟩; have hst8 := HST7.out.next HC8.out hr8; obtain ⟨S8, cs8, ps8, hown8⟩ := henc8; obtain ⟨oa, oc, rfl⟩ := hown8.any; obtain ⟨⟨e0, e1, e2, e3⟩, f1, f2, f3⟩ := hst8.cells; have HST8 := Lib.hid hst8; have HOWN8 := Lib.hid hown8; have HP8 := Lib.hid hp8; clear hst8 hown8 hp8 hr8)
  rotate_left
  focus exact ⟨rfl, HCH6.out.drew.trans (HC7.out.trans HC8.out), .inr ⟨c8, HE6.out.trans (rest_e3 HP7.out hp8), rfl⟩⟩
  try dsimp only [StepQ]
  refine ⟨?_, fun hHeld => ?_⟩
  focus (exact Lib.hid (HST8.out.box))
  try simp only [Act.put, List.setIfInBounds_toArray, List.set_cons_zero, List.set_cons_succ]
  refine wpAnyHL_done (by kernel_rfl) ?_
  try simp only [List.drop_succ_cons, List.drop_zero]
  clear hHeld
  go_upto_region 11 with (fail)
  have hol := rdMany_len _ _ _ _ HP8.out
  have hst9 := HST8.out.put 2 (by omega) (.slice oa outs.length oc) rfl
  have hch9 := (HCH6.out.drew.trans (HC7.out.trans HC8.out)).setCell (p := ⟨q, 2, none⟩) (.inl (by have := HQW.out; show w.heap.size ≤ q; omega)) (.slice oa outs.length oc)
  have hs6 : W6.drew.heap.size = W6.heap.size := rfl
  have hgo9 : GotO W7.heap.size W8.heap.size (W8.setCell ⟨q, 2, none⟩ (.slice oa outs.length oc)) (.slice oa outs.length oc) outs := (HOWN8.out.got (by have := HK7.out; omega)).chg (X := (· = q)) (Chg.cell q 2 _) (fun k e => .inl (by have := HST7.out.lt; omega))
  have hgi9 : GotI bI nI (W8.setCell ⟨q, 2, none⟩ (.slice oa outs.length oc)) (.slice ia ins.length ic) ins :=
    ((HGI6.out.chg (X := (· = g)) ((Chg.refl _ W6).drew.trans (HC7.out.trans HC8.out)) (fun k e => .inl (by have := HB6.out.1; have := HST7.out.lt; have := HST7.out.gp; omega)))).chg (X := (· = q)) (Chg.cell q 2 _) (fun k e => .inl (by have := HB6.out.1; omega))
  have hb9 : q < bI ∧ bI ≤ nI ∧ nI ≤ W7.heap.size ∧ W7.heap.size ≤ W8.heap.size ∧ W8.heap.size ≤ (W8.setCell ⟨q, 2, none⟩ (.slice oa outs.length oc)).heap.size := by
    have h1 := HB6.out; have h2 := HC7.out.size; have h3 := HC8.out.size
    exact ⟨h1.1, h1.2.1, by omega, h3, by simp⟩
  have HST9 := Lib.hid hst9; have HCH9 := Lib.hid hch9; have HGI9 := Lib.hid hgi9; have HGO9 := Lib.hid hgo9; have HB9 := Lib.hid hb9
  have HE9 := Lib.hid (HE6.out.trans (rest_ok2 HP7.out HP8.out))
  clear hst9 hch9 hgi9 hgo9 hb9 hol hs6 e0 e1 e2 e3 f1 f2 f3 HST6 HCH6 HE6 HGI6 HB6 HST7 HST8 HOWN8 HP7 HP8 HC7 HC8
  generalize W8.setCell ⟨q, 2, none⟩ (.slice oa outs.length oc) = W9 at *
  generalize W7.heap.size = bO at *
  generalize W8.heap.size = nO at *
  rename_i K1 hK1 K0 hK0
  refine wp_join2 [7, 39, 40, 41, 42, 43, 44, 45, 46, 47, 48, 49, 50, 51, 52, 53, 54, 55, 56] (fun us W => ∃ (ins2 : List InD) (v' : Value) (l' : List Int), ins2.length = ins.length ∧ Chg (· = g) w W ∧ TxSt B p q g W v' l' (.int .i32 (toI32 x1)) (.slice ia ins.length ic) (.slice oa outs.length oc) (.int .u32 0) ∧ GotI bI W.heap.size W (.slice ia ins.length ic) ins2 ∧ GotO bO nO W (.slice oa outs.length oc) outs ∧ rdTx l = rdEnd (toI32 x1) second ins2 outs l') hK1 (fun key0 => ?_) ?_
  focus
    have key := fun z1 z2 z3 z4 z5 z6 z7 z8 z9 z10 z11 z12 z13 z14 z15 z16 z17 z18 z19 w' => key0 [z1, z2, z3, z4, z5, z6, z7, z8, z9, z10, z11, z12, z13, z14, z15, z16, z17, z18, z19] w' rfl
    clear key0 hK1
    simp only [putAll, Act.put, List.setIfInBounds_toArray, List.set_cons_zero, List.set_cons_succ] at key
    have KEY := Lib.hid key
    clear key
    cases second
    focus
      go_wp2
      refine KEY.out _ _ _ _ _ _ _ _ _ _ _ _ _ _ _ _ _ _ _ _ ?_
      exact ⟨ins, v8, l8, rfl, HCH9.out, HST9.out, HGI9.out.up (by have := HB9.out; omega) (Nat.le_refl _), HGO9.out, HE9.out.trans rest_plain⟩
    focus
      obtain ⟨⟨e0, e1, e2, e3⟩, f1, f2, f3⟩ := HST9.out.cells
      go_wp2
      go_loopw [43] (fun c wr => ∃ i : Nat, i ≤ ins.length ∧ c = .int .i64 i ∧ WitSt B bI bO nO p q g l l8 ins outs (.int .i32 (toI32 x1)) (.slice ia ins.length ic) (.slice oa outs.length oc) (.int .u32 0) w wr i) (fun c _ => (ins.length - intOf c).toNat)
      case atStart => exact ⟨0, by omega, rfl, [], v8, l8, HCH9.out, HST9.out, rfl, HGI9.out.up (by have := HB9.out; omega) (Nat.le_refl _), HGO9.out⟩
      case round =>
        obtain ⟨i, hi, rfl, xs, v', l', hch, hst, hwt, hgi, hgo⟩ := hrel
        have HCH := Lib.hid hch; have HST := Lib.hid hst; have HWT := Lib.hid hwt; have HGI := Lib.hid hgi; have HGO := Lib.hid hgo
        have HXL := Lib.hid (rdWits_len _ _ _ _ _ hwt)
        clear hch hst hwt hgi hgo
        by_cases hlt : i < ins.length
        · obtain ⟨gi, off, sv0, wv0, d0, rfl, hb0, hn0, -, -, -⟩ := HGI9.out.at i hlt
          have HGB := Lib.hid (And.intro hb0 hn0)
          clear hb0 hn0
          obtain ⟨⟨a0, a1, a2, a3⟩, g1, g2, g3⟩ := HST.out.cells
          go_upto_region 15 with (fail)
          refine wp_region_head (S := fun W => Hid ((fun W => Row W p 0 [.pointer (some ⟨g, 0, none⟩)] ∧ W.cell? ⟨q, 1, none⟩ = some (.slice (some ⟨gi, off, none⟩) ins.length ic)) W)) 8 (by kernel_rfl) (by kernel_rfl) ?_ (fun hHeld => ?_)
          focus exact Lib.hid ⟨HST.out.drew.box, HST.out.drew.cells.1.2.1⟩
          refine wpAnyHL_take (i := 0) (oi := ?_) (v := ?_) ?_ ?_ ?_ ?_ ?_ ?_ ?_ ?_ ?_ (Or.inl ⟨?_, ?_⟩) ?_ ?_
          rotate_left 2
          focus (simp only [List.getElem?_toArray, List.getElem?_cons_succ, List.getElem?_cons_zero]; exact rfl)
          iterate 7 focus kernel_rfl
          focus (exact fun _ _ _ h => h)
          focus rfl
          focus ((intro wSw hSw; (have hSw := hSw.out); (try dsimp only at hSw); go_simp) <;> with_reducible rfl)
          focus assumption
          try simp only [Act.put, List.setIfInBounds_toArray, List.set_cons_zero, List.set_cons_succ]
          refine wpAnyHL_take (i := 1) (oi := ?_) (v := ?_) ?_ ?_ ?_ ?_ ?_ ?_ ?_ ?_ ?_ (Or.inl ⟨?_, ?_⟩) ?_ ?_
          rotate_left 2
          focus (simp only [List.getElem?_toArray, List.getElem?_cons_succ, List.getElem?_cons_zero]; exact rfl)
          iterate 7 focus kernel_rfl
          focus (exact fun _ _ _ h => h)
          focus rfl
          focus ((intro wSw hSw; (have hSw := hSw.out); (try dsimp only at hSw); go_simp) <;> with_reducible rfl)
          focus assumption
          try simp only [Act.put, List.setIfInBounds_toArray, List.set_cons_zero, List.set_cons_succ]
          refine wpAnyHL_take (i := 2) (oi := ?_) (v := ?_) ?_ ?_ ?_ ?_ ?_ ?_ ?_ ?_ ?_ (Or.inl ⟨?_, ?_⟩) ?_ ?_
          rotate_left 2
          focus (simp only [List.getElem?_toArray, List.getElem?_cons_succ, List.getElem?_cons_zero]; exact rfl)
          iterate 7 focus kernel_rfl
          focus (exact fun _ _ _ h => h)
          focus rfl
          focus ((intro wSw hSw; (have hSw := hSw.out); (try dsimp only at hSw); go_simp) <;> with_reducible rfl)
          focus assumption
          try simp only [Act.put, List.setIfInBounds_toArray, List.set_cons_zero, List.set_cons_succ]
          refine wpAnyHL_take (i := 3) (oi := ?_) (v := ?_) ?_ ?_ ?_ ?_ ?_ ?_ ?_ ?_ ?_ (Or.inl ⟨?_, ?_⟩) ?_ ?_
          rotate_left 2
          focus (simp only [List.getElem?_toArray, List.getElem?_cons_succ, List.getElem?_cons_zero]; exact rfl)
          iterate 7 focus kernel_rfl
          focus (exact fun _ _ _ h => h)
          focus rfl
          focus (intro wSw hSw; (have hSw := hSw.out); (refine run_load_row 125 (.tmp 1) ?_ p 0 ?_ _ _ hSw.1 Tryz.underlying125 rfl rfl) <;> rfl)
          focus assumption
          try simp only [Act.put, List.setIfInBounds_toArray, List.set_cons_zero, List.set_cons_succ]
          refine wpAnyHL_take (i := 5) (oi := ?_) (v := ?_) ?_ ?_ ?_ ?_ ?_ ?_ ?_ ?_ ?_ (Or.inl ⟨?_, ?_⟩) ?_ ?_
          rotate_left 2
          focus (simp only [List.getElem?_toArray, List.getElem?_cons_succ, List.getElem?_cons_zero]; exact rfl)
          iterate 7 focus kernel_rfl
          focus (exact fun _ _ _ h => h)
          focus rfl
          focus (intro wSw hSw; (have hSw := hSw.out); (refine run_load_row 125 (.tmp 1) ?_ p 0 ?_ _ _ hSw.1 Tryz.underlying125 rfl rfl) <;> rfl)
          focus assumption
          try simp only [Act.put, List.setIfInBounds_toArray, List.set_cons_zero, List.set_cons_succ]
          refine wpAnyHL_take (i := 6) (oi := ?_) (v := ?_) ?_ ?_ ?_ ?_ ?_ ?_ ?_ ?_ ?_ (Or.inl ⟨?_, ?_⟩) ?_ ?_
          rotate_left 2
          focus (simp only [List.getElem?_toArray, List.getElem?_cons_succ, List.getElem?_cons_zero]; exact rfl)
          iterate 7 focus kernel_rfl
          focus (exact fun _ _ _ h => h)
          focus rfl
          focus ((intro wSw hSw; (have hSw := hSw.out); (try dsimp only at hSw); go_simp) <;> with_reducible rfl)
          focus assumption
          try simp only [Act.put, List.setIfInBounds_toArray, List.set_cons_zero, List.set_cons_succ]
          refine wpAnyHL_one (i := 4) (o := ?_) (by kernel_rfl) (by kernel_rfl) ?_ ?_
          rotate_left 1
          focus (simp only [List.getElem?_toArray, List.getElem?_cons_succ, List.getElem?_cons_zero]; exact rfl)
          clear a0 a1 a2 a3 g1 g2 g3
          go_wp2_with (go_at_call 100; refine (count_t g v' l' wr.drew HST.out.drew.rd HST.out.drew.size.1 HST.out.drew.size.2).mono ?_; rintro r W10 ⟨hc10, hcs⟩; have HC10 := Lib.hid hc10; clear hc10; rcases hcs with ⟨k2, val10, v10, l10, hp10, rfl, rfl, hr10⟩ | ⟨c10, hp10, rfl⟩)
          rotate_left
          focus exact ⟨rfl, HCH.out.drew.trans HC10.out, .inr ⟨c10, HE9.out.trans (rest_e4 (rdWits_stop (rdWits_fail1 HWT.out hp10) _ (by omega))), rfl⟩⟩
          have hst10 := HST.out.drew.next HC10.out hr10
          have HST10 := Lib.hid hst10; have HP10 := Lib.hid hp10; have HK10 := Lib.hid (rdCount_inv HST.out.rd.bytes hp10).1
          clear hst10 hp10 hr10
          try dsimp only [StepQ]
          refine ⟨?_, fun hHeld => ?_⟩
          focus (exact Lib.hid (⟨HST10.out.box, HST10.out.cells.1.2.1⟩))
          try simp only [Act.put, List.setIfInBounds_toArray, List.set_cons_zero, List.set_cons_succ]
          refine wpAnyHL_one (i := 7) (o := ?_) (by kernel_rfl) (by kernel_rfl) ?_ ?_
          rotate_left 1
          focus (simp only [List.getElem?_toArray, List.getElem?_cons_succ, List.getElem?_cons_zero]; exact rfl)
          go_wp2_with (go_at_call 108; refine (list_text_gen 109 _ text_run g (fun v l W h hB hg => text_t g v l W h hB hg) v10 l10 k2 HK10.out W10 HST10.out.rd HST10.out.size.1 HST10.out.size.2).mono ?_; rintro r W11 ⟨hc11, hcs⟩; have HC11 := Lib.hid hc11; clear hc11; rcases hcs with ⟨ls, wv, v11, l11, hp11, rfl, henc11, hr11⟩ | ⟨c11, hp11, rfl⟩; have hst11 := HST10.out.next HC11.out hr11; obtain ⟨vs11, hown11⟩ := henc11; obtain ⟨wa, wc, rfl⟩ := hown11.any; have HST11 := Lib.hid hst11; have HOWN11 := Lib.hid hown11; have HP11 := Lib.hid hp11; clear hst11 hown11 hp11 hr11)
          rotate_left
          focus exact ⟨rfl, HCH.out.drew.trans (HC10.out.trans HC11.out), .inr ⟨c11, HE9.out.trans (rest_e4 (rdWits_stop (rdWits_fail2 HWT.out HP10.out hp11) _ (by omega))), rfl⟩⟩
          try dsimp only [StepQ]
          refine ⟨?_, fun hHeld => ?_⟩
          focus (exact Lib.hid (⟨HST11.out.box, HST11.out.cells.1.2.1⟩))
          try simp only [Act.put, List.setIfInBounds_toArray, List.set_cons_zero, List.set_cons_succ]
          refine wpAnyHL_done (by kernel_rfl) ?_
          try simp only [List.drop_succ_cons, List.drop_zero]
          clear hHeld
          have hchg : Chg (· = g) wr W11 := ((Chg.refl (· = g) wr).drew.trans (HC10.out.trans HC11.out))
          have hqb := HB9.out
          have hgq : g < q := by have := HST11.out.gp; have := HST11.out.lt; omega
          have hgi11 : GotI bI W11.heap.size W11 (.slice (some ⟨gi, off, none⟩) ins.length ic) (xs ++ ins.drop i) :=
            (HGI.out.chg hchg (fun k e => .inl (by omega))).up hchg.size (Nat.le_refl _)
          have hlen11 : i < (xs ++ ins.drop i).length := by have := HXL.out; simp; omega
          obtain ⟨gi2, off2, sv, wv1, d, e2, hbb, hnn, hd, hrow, hhl⟩ := hgi11.at i hlen11
          cases e2
          have hdi : ins[i]? = some d := by
            have hx := HXL.out
            rw [List.getElem?_append_right (by omega), hx, Nat.sub_self, List.getElem?_drop, Nat.add_zero] at hd
            exact hd
          obtain ⟨e35, f35⟩ := at35 hrow hhl
          have hwl : RLL (FrN bI W11.heap.size (.slice (some ⟨gi, off, none⟩) ins.length ic)) (FrN bI W11.heap.size (.slice (some ⟨gi, off, none⟩) ins.length ic)) W11 (.slice wa ls.length wc) ls := by
            have hsz : nI ≤ W10.heap.size := by have h1 := HST10.out.lt; have h2 := HC10.out.size; have h3 : wr.drew.heap.size = wr.heap.size := rfl; have h4 := HGO.out.2; omega
            have hgb := HGB.out
            have hown : ∀ k, W10.heap.size ≤ k → Value.ownBlock (.slice (some ⟨gi, off, none⟩) ins.length ic) ≠ some k := fun k hk e => by
              have : gi = k := by simpa [Value.ownBlock] using e
              omega
            have hll : ls.length * 24 ≤ 140737488355328 := by have h1 := rdMany_len _ _ _ _ HP11.out; have h2 := HK10.out; omega
            exact ⟨vs11, (HOWN11.out.rl hll).mono (fun k hk => ⟨by omega, hk.2.1, hown k hk.1⟩) (fun k hk => ⟨by omega, hk.2.1, hown k hk.1⟩)⟩
          have hput := hgi11.put i d hd (.slice wa ls.length wc) ls hwl
          rw [set_done HXL.out hlt] at hput
          have HPUT := Lib.hid hput; have HDI := Lib.hid hdi; have HCHG := Lib.hid hchg; have HGQ := Lib.hid hgq
          clear hput hdi hgi11 hlen11 hrow hd hwl hchg hqb hgq hbb hnn
          have hil := HIL.out
          go_wp2
          go_roundw
          case rel =>
            have hgb := HGB.out
            have hqb := HB9.out
            have hgq := HGQ.out
            have hqq := HST11.out.lt
            have hpp := HST11.out.gp
            have hx : Chg (· = gi) W11 (W11.setCell ⟨gi, off + i * 36 + 35, none⟩ (.slice wa ls.length wc)) := Chg.cell gi _ _
            have hw := HQW.out
            refine ⟨i + 1, by omega, by go_num, xs ++ [{ d with wit := ls }], v11, l11, chg_then (HCH.out.trans HCHG.out) hx (fun k e => .inl (by omega)), ?_, rdWits_next HWT.out HDI.out HP10.out HP11.out, by have := HPUT.out; simpa using this, (HGO.out.chg HCHG.out (fun k e => .inl (by omega))).chg hx (fun k e => .inl (by omega))⟩
            exact ⟨HST11.out.box.chg hx (by omega), HST11.out.res.chg hx (by omega), HST11.out.loc.chg hx (by omega), ⟨hqq.1, Nat.lt_of_lt_of_le hqq.2 hx.size⟩, hpp, HST11.out.rd.far hx (fun k e => by omega) (by omega)⟩
          case measure => simp [intOf]; omega
        · obtain rfl : i = ins.length := by omega
          have hgi := HGI.out
          rw [List.drop_length, List.append_nil] at hgi
          have HGI' := Lib.hid hgi
          clear hgi
          go_wp2
          refine KEY.out _ _ _ _ _ _ _ _ _ _ _ _ _ _ _ _ _ _ _ _ ?_
          exact ⟨xs, v', l', HXL.out, HCH.out, HST.out, HGI'.out, HGO.out, HE9.out.trans (rest_ok4 HWT.out)⟩
  intro zs W17 hl hj
  match zs, hl with
  | [z1, z2, z3, z4, z5, z6, z7, z8, z9, z10, z11, z12, z13, z14, z15, z16, z17, z18, z19], _ =>
  obtain ⟨ins2, v17, l17, hl17, hch17, hst17, hgi17, hgo17, he17⟩ := hj
  simp only [putAll, Act.put, List.setIfInBounds_toArray, List.set_cons_zero, List.set_cons_succ]
  have HST17 := Lib.hid hst17; have HCH17 := Lib.hid hch17; have HE17 := Lib.hid he17; have HGI17 := Lib.hid (show GotI bI W17.heap.size W17 (.slice ia ins2.length ic) ins2 by rw [hl17]; exact hgi17); have HGO17 := Lib.hid hgo17
  rw [← hl17] at HST17
  clear hst17 hch17 he17 hgi17 hgo17 hl17 hK1 K1 hK0 K0 HST9 HCH9 HGI9 HGO9 HE9 hl
  have c17 := HST17.out.c0
  go_upto_region 18 with (go_at_call 99; refine (number_t g v17 l17 W17 HST17.out.rd HST17.out.size.1 HST17.out.size.2).mono ?_; rintro r W18 ⟨hc18, hcs⟩; have HC18 := Lib.hid hc18; clear hc18; rcases hcs with ⟨lk, val18, v18, l18, hp18, rfl, rfl, hr18⟩ | ⟨c18, hp18, rfl⟩; have hst18 := HST17.out.next HC18.out hr18; obtain ⟨⟨e0, e1, e2, e3⟩, f1, f2, f3⟩ := hst18.cells; have HST18 := Lib.hid hst18; have HP18 := Lib.hid hp18; clear hst18 hr18 hp18)
  rotate_left
  focus exact ⟨rfl, HCH17.out.trans HC18.out, .inr ⟨c18, HE17.out.trans (end_e1 hp18), rfl⟩⟩
  obtain ⟨y0, y1, -, -, -⟩ := rdNum_inv HST17.out.rd.bytes HP18.out
  simp only [Int.reducePow] at y1
  have hst19 := HST18.out.put 3 (by omega) (.int .u32 lk) rfl
  have hch19 := (HCH17.out.trans HC18.out).setCell (p := ⟨q, 3, none⟩) (.inl (by have := HQW.out; show w.heap.size ≤ q; omega)) (.int .u32 lk)
  have hgi19 : GotI bI W17.heap.size (W18.setCell ⟨q, 3, none⟩ (.int .u32 lk)) (.slice ia ins2.length ic) ins2 :=
    (HGI17.out.chg HC18.out (fun k e => .inl (by have := HB9.out; have := HST18.out.lt; have := HST18.out.gp; omega))).chg (X := (· = q)) (Chg.cell q 3 _) (fun k e => .inl (by have := HB9.out; omega))
  have hgo19 : GotO bO nO (W18.setCell ⟨q, 3, none⟩ (.int .u32 lk)) (.slice oa outs.length oc) outs :=
    (HGO17.out.chg HC18.out (fun k e => .inl (by have := HB9.out; have := HST18.out.lt; have := HST18.out.gp; omega))).chg (X := (· = q)) (Chg.cell q 3 _) (fun k e => .inl (by have := HB9.out; omega))
  have hnum : W17.heap.size ≤ (W18.setCell ⟨q, 3, none⟩ (.int .u32 lk)).heap.size ∧ nO ≤ W17.heap.size := ⟨by have := HC18.out.size; simpa using this, HGO17.out.2⟩
  have HST19 := Lib.hid hst19; have HCH19 := Lib.hid hch19; have HGI19 := Lib.hid hgi19; have HGO19 := Lib.hid hgo19; have HNUM := Lib.hid hnum; have HLK := Lib.hid (show U32 lk from ⟨y0, y1⟩)
  clear hst19 hch19 hgi19 hgo19 hnum y0 y1 e0 e1 e2 e3 f1 f2 f3 c17 HST17 HST18 HCH17 HGI17 HGO17 HC18
  generalize W18.setCell ⟨q, 3, none⟩ (.int .u32 lk) = W19 at *
  have HRTX := Lib.hid (fun W (hk : Keeps W19 W) => (got_rtx (d := ⟨toI32 x1, ins2, outs, lk⟩) HI32.out HLK.out (HGI19.out.chg (hk.chg (fun _ => False)) (fun _ h => h.elim)) (HGO19.out.chg (hk.chg (fun _ => False)) (fun _ h => h.elim))))
  rename_i K1 hK1
  refine wp_join2 [60, 61, 62, 63, 64, 65, 66, 67] (fun us W => Keeps W19 W ∧ (second = true → witnessedD ⟨toI32 x1, ins2, outs, lk⟩ = true)) hK1 (fun key0 => ?_) ?_
  rotate_left
  focus
    intro ys W21 hl hj
    match ys, hl with
    | [y1, y2, y3, y4, y5, y6, y7, y8], _ =>
    obtain ⟨hk21, hw21⟩ := hj
    simp only [putAll, Act.put, List.setIfInBounds_toArray, List.set_cons_zero, List.set_cons_succ]
    have hst21 := HST19.out.next (hk21.chg _) (HST19.out.rd.keeps hk21)
    have HST21 := Lib.hid hst21; have HK21 := Lib.hid hk21; have HW21 := Lib.hid hw21
    clear hst21 hk21 hw21 hK1 K1 hl
    by_cases hleft : 0 < l18.length
    focus
      go_upto_region 19 with (fail)
      refine wp_region_head (S := fun W => Hid ((fun W => Row W p 0 [.pointer (some ⟨g, 0, none⟩)] ∧ W.cell? ⟨p, 0, none⟩ = some (.pointer (some ⟨g, 0, none⟩))) W)) 5 (by kernel_rfl) (by kernel_rfl) ?_ (fun hHeld => ?_)
      focus exact Lib.hid ⟨HST21.out.drew.box, HST21.out.drew.c0⟩
      refine wpAnyHL_take (i := 0) (oi := ?_) (v := ?_) ?_ ?_ ?_ ?_ ?_ ?_ ?_ ?_ ?_ (Or.inl ⟨?_, ?_⟩) ?_ ?_
      rotate_left 2
      focus (simp only [List.getElem?_toArray, List.getElem?_cons_succ, List.getElem?_cons_zero]; exact rfl)
      iterate 7 focus kernel_rfl
      focus (exact fun _ _ _ h => h)
      focus rfl
      focus (intro wSw hSw; (have hSw := hSw.out); (refine run_load_row 125 (.tmp 1) ?_ p 0 ?_ _ _ hSw.1 Tryz.underlying125 rfl rfl) <;> rfl)
      focus assumption
      try simp only [Act.put, List.setIfInBounds_toArray, List.set_cons_zero, List.set_cons_succ]
      refine wpAnyHL_take (i := 1) (oi := ?_) (v := ?_) ?_ ?_ ?_ ?_ ?_ ?_ ?_ ?_ ?_ (Or.inl ⟨?_, ?_⟩) ?_ ?_
      rotate_left 2
      focus (simp only [List.getElem?_toArray, List.getElem?_cons_succ, List.getElem?_cons_zero]; exact rfl)
      iterate 7 focus kernel_rfl
      focus (exact fun _ _ _ h => h)
      focus rfl
      focus ((intro wSw hSw; (have hSw := hSw.out); (try dsimp only at hSw); go_simp) <;> with_reducible rfl)
      focus assumption
      try simp only [Act.put, List.setIfInBounds_toArray, List.set_cons_zero, List.set_cons_succ]
      refine wpAnyHL_take (i := 2) (oi := ?_) (v := ?_) ?_ ?_ ?_ ?_ ?_ ?_ ?_ ?_ ?_ (Or.inl ⟨?_, ?_⟩) ?_ ?_
      rotate_left 2
      focus (simp only [List.getElem?_toArray, List.getElem?_cons_succ, List.getElem?_cons_zero]; exact rfl)
      iterate 7 focus kernel_rfl
      focus (exact fun _ _ _ h => h)
      focus rfl
      focus ((intro wSw hSw; (have hSw := hSw.out); (try dsimp only at hSw); go_simp) <;> with_reducible rfl)
      focus assumption
      try simp only [Act.put, List.setIfInBounds_toArray, List.set_cons_zero, List.set_cons_succ]
      refine wpAnyHL_one (i := 3) (o := ?_) (by kernel_rfl) (by kernel_rfl) ?_ ?_
      rotate_left 1
      focus (simp only [List.getElem?_toArray, List.getElem?_cons_succ, List.getElem?_cons_zero]; exact rfl)
      go_wp2_with (go_at_call 110; refine (rdr_left_any g v18 0 _ W21.drew HST21.out.drew.rd).mono ?_; rintro r W22 ⟨rfl, rfl⟩)
      try dsimp only [StepQ]
      refine ⟨?_, fun hHeld => ?_⟩
      focus (exact Lib.hid (hHeld.out))
      try simp only [Act.put, List.setIfInBounds_toArray, List.set_cons_zero, List.set_cons_succ]
      refine wpAnyHL_one (i := 4) (o := ?_) (by kernel_rfl) (by kernel_rfl) ?_ ?_
      rotate_left 1
      focus (simp only [List.getElem?_toArray, List.getElem?_cons_succ, List.getElem?_cons_zero]; exact rfl)
      go_wp2
      try dsimp only [StepQ]
      refine ⟨?_, fun hHeld => ?_⟩
      focus (exact Lib.hid (hHeld.out))
      try simp only [Act.put, List.setIfInBounds_toArray, List.set_cons_zero, List.set_cons_succ]
      refine wpAnyHL_done (by kernel_rfl) ?_
      try simp only [List.drop_succ_cons, List.drop_zero]
      clear hHeld
      have hst22 := HST21.out.drew
      have HST22 := Lib.hid hst22; have HK22 := Lib.hid (keeps_drew HK21.out)
      clear hst22 HST21
      generalize W21.drew = W22 at *
      go_wp2_with (go_at_call 103; refine (must_yes g _ _).mono ?_; rintro r W23 ⟨rfl, hk23⟩)
      exact ⟨rfl, HCH19.out.trans ((HK22.out.trans hk23).chg _), .inr ⟨3, HE17.out.trans (end_e3 HP18.out hleft), rfl⟩⟩
    focus
      obtain rfl : l18 = [] := List.eq_nil_of_length_eq_zero (by omega)
      clear hleft
      go_upto_region 19 with (fail)
      refine wp_region_head (S := fun W => Hid ((fun W => Row W p 0 [.pointer (some ⟨g, 0, none⟩)] ∧ W.cell? ⟨p, 0, none⟩ = some (.pointer (some ⟨g, 0, none⟩))) W)) 5 (by kernel_rfl) (by kernel_rfl) ?_ (fun hHeld => ?_)
      focus exact Lib.hid ⟨HST21.out.drew.box, HST21.out.drew.c0⟩
      refine wpAnyHL_take (i := 0) (oi := ?_) (v := ?_) ?_ ?_ ?_ ?_ ?_ ?_ ?_ ?_ ?_ (Or.inl ⟨?_, ?_⟩) ?_ ?_
      rotate_left 2
      focus (simp only [List.getElem?_toArray, List.getElem?_cons_succ, List.getElem?_cons_zero]; exact rfl)
      iterate 7 focus kernel_rfl
      focus (exact fun _ _ _ h => h)
      focus rfl
      focus (intro wSw hSw; (have hSw := hSw.out); (refine run_load_row 125 (.tmp 1) ?_ p 0 ?_ _ _ hSw.1 Tryz.underlying125 rfl rfl) <;> rfl)
      focus assumption
      try simp only [Act.put, List.setIfInBounds_toArray, List.set_cons_zero, List.set_cons_succ]
      refine wpAnyHL_take (i := 1) (oi := ?_) (v := ?_) ?_ ?_ ?_ ?_ ?_ ?_ ?_ ?_ ?_ (Or.inl ⟨?_, ?_⟩) ?_ ?_
      rotate_left 2
      focus (simp only [List.getElem?_toArray, List.getElem?_cons_succ, List.getElem?_cons_zero]; exact rfl)
      iterate 7 focus kernel_rfl
      focus (exact fun _ _ _ h => h)
      focus rfl
      focus ((intro wSw hSw; (have hSw := hSw.out); (try dsimp only at hSw); go_simp) <;> with_reducible rfl)
      focus assumption
      try simp only [Act.put, List.setIfInBounds_toArray, List.set_cons_zero, List.set_cons_succ]
      refine wpAnyHL_take (i := 2) (oi := ?_) (v := ?_) ?_ ?_ ?_ ?_ ?_ ?_ ?_ ?_ ?_ (Or.inl ⟨?_, ?_⟩) ?_ ?_
      rotate_left 2
      focus (simp only [List.getElem?_toArray, List.getElem?_cons_succ, List.getElem?_cons_zero]; exact rfl)
      iterate 7 focus kernel_rfl
      focus (exact fun _ _ _ h => h)
      focus rfl
      focus ((intro wSw hSw; (have hSw := hSw.out); (try dsimp only at hSw); go_simp) <;> with_reducible rfl)
      focus assumption
      try simp only [Act.put, List.setIfInBounds_toArray, List.set_cons_zero, List.set_cons_succ]
      refine wpAnyHL_one (i := 3) (o := ?_) (by kernel_rfl) (by kernel_rfl) ?_ ?_
      rotate_left 1
      focus (simp only [List.getElem?_toArray, List.getElem?_cons_succ, List.getElem?_cons_zero]; exact rfl)
      go_wp2_with (go_at_call 110; refine (rdr_left_any g v18 0 _ W21.drew HST21.out.drew.rd).mono ?_; rintro r W22 ⟨rfl, rfl⟩)
      try dsimp only [StepQ]
      refine ⟨?_, fun hHeld => ?_⟩
      focus (exact Lib.hid (hHeld.out))
      try simp only [Act.put, List.setIfInBounds_toArray, List.set_cons_zero, List.set_cons_succ]
      refine wpAnyHL_one (i := 4) (o := ?_) (by kernel_rfl) (by kernel_rfl) ?_ ?_
      rotate_left 1
      focus (simp only [List.getElem?_toArray, List.getElem?_cons_succ, List.getElem?_cons_zero]; exact rfl)
      go_wp2
      try dsimp only [StepQ]
      refine ⟨?_, fun hHeld => ?_⟩
      focus (exact Lib.hid (hHeld.out))
      try simp only [Act.put, List.setIfInBounds_toArray, List.set_cons_zero, List.set_cons_succ]
      refine wpAnyHL_done (by kernel_rfl) ?_
      try simp only [List.drop_succ_cons, List.drop_zero]
      clear hHeld
      have hst22 := HST21.out.drew
      have HST22 := Lib.hid hst22; have HK22 := Lib.hid (keeps_drew HK21.out)
      clear hst22 HST21
      generalize W21.drew = W22 at *
      go_upto_region 20 with (go_at_call 103; refine (must_no g _ _).mono ?_; rintro r W23 ⟨rfl, hk23⟩)
      have hst23 := HST22.out.next (hk23.chg _) (HST22.out.rd.keeps hk23)
      have HST23 := Lib.hid hst23; have HK23 := Lib.hid (HK22.out.trans hk23)
      clear hst23 hk23 HST22 HK22
      go_wp2_with (first | (refine wpList_load_at rfl 46 (.tmp 3) rfl q 0 rfl _ _ HST23.out.loc Tryz.underlying46 rfl (sz_tx _ _ _ _) ?_) | (refine wpList_store_row rfl 46 (.tmp 2) (.tmp 74) rfl (p + 1) 0 rfl _ [.int .i32 (toI32 x1), .slice ia ins2.length ic, .slice oa outs.length oc, .int .u32 lk] rfl HST23.out.res rfl (sz_tx _ _ _ _) (four_one _ _ _ _ _ _ _ _) ?_; intro W24 hr24 hc24; have HR24 := Lib.hid hr24; have HC24 := Lib.hid hc24; clear hr24 hc24))
      refine bodyPost_ret (results_cell_at rfl _ _ (p + 1) 0 _ _ (by simp only [Act.put, List.setIfInBounds_toArray, List.set_cons_zero, List.set_cons_succ]; rfl) HR24.out Tryz.underlying46 rfl (sz_tx _ _ _ _)) rfl ?_
      have hb := HB9.out
      have hp := HP.out
      have hq := HST23.out.lt
      have hw := HQW.out
      have hc24 : Chg (· = p + 1) W23 W24 := HC24.out
      have hs1 := HK23.out.size
      have hs2 := hc24.size
      have hn := HNUM.out
      refine ⟨chg_then (HCH19.out.trans (HK23.out.chg _)) hc24 (fun k e => .inl (by omega)), .inl ⟨⟨toI32 x1, ins2, outs, lk⟩, _, _, [], HE17.out.trans (end_ok HP18.out HW21.out (by simp)), rfl, HI32.out, HLK.out, ?_, ?_⟩⟩
      · exact (((HGI19.out.chg (HK23.out.chg (fun _ => False)) (fun _ h => h.elim)).chg hc24 (fun k e => .inl (by omega))).up (by omega) (Nat.le_refl _)).low (by omega)
      · exact (((HGO19.out.chg (HK23.out.chg (fun _ => False)) (fun _ h => h.elim)).chg hc24 (fun k e => .inl (by omega))).up (by omega) (Nat.le_refl _)).low (by omega)
  have key := fun y1 y2 y3 y4 y5 y6 y7 y8 w' => key0 [y1, y2, y3, y4, y5, y6, y7, y8] w' rfl
  clear key0 hK1
  simp only [putAll, Act.put, List.setIfInBounds_toArray, List.set_cons_zero, List.set_cons_succ] at key
  have KEY := Lib.hid key
  clear key
  refine wp_region_head (S := fun W => Hid ((fun W => Row W p 0 [.pointer (some ⟨g, 0, none⟩)] ∧ Row W q 0 [.int .i32 (toI32 x1), .slice ia ins2.length ic, .slice oa outs.length oc, .int .u32 lk]) W)) 7 (by kernel_rfl) (by kernel_rfl) ?_ (fun hHeld => ?_)
  focus exact Lib.hid ⟨HST19.out.drew.box, HST19.out.drew.loc⟩
  refine wpAnyHL_take (i := 0) (oi := ?_) (v := ?_) ?_ ?_ ?_ ?_ ?_ ?_ ?_ ?_ ?_ (Or.inl ⟨?_, ?_⟩) ?_ ?_
  rotate_left 2
  focus (simp only [List.getElem?_toArray, List.getElem?_cons_succ, List.getElem?_cons_zero]; exact rfl)
  iterate 7 focus kernel_rfl
  focus (exact fun _ _ _ h => h)
  focus rfl
  focus (intro wSw hSw; (have hSw := hSw.out); (refine run_load_row 125 (.tmp 1) ?_ p 0 ?_ _ _ hSw.1 Tryz.underlying125 rfl rfl) <;> rfl)
  focus assumption
  try simp only [Act.put, List.setIfInBounds_toArray, List.set_cons_zero, List.set_cons_succ]
  refine wpAnyHL_take (i := 1) (oi := ?_) (v := ?_) ?_ ?_ ?_ ?_ ?_ ?_ ?_ ?_ ?_ (Or.inl ⟨?_, ?_⟩) ?_ ?_
  rotate_left 2
  focus (simp only [List.getElem?_toArray, List.getElem?_cons_succ, List.getElem?_cons_zero]; exact rfl)
  iterate 7 focus kernel_rfl
  focus (exact fun _ _ _ h => h)
  focus rfl
  focus ((intro wSw hSw; (have hSw := hSw.out); (try dsimp only at hSw); go_simp) <;> with_reducible rfl)
  focus assumption
  try simp only [Act.put, List.setIfInBounds_toArray, List.set_cons_zero, List.set_cons_succ]
  refine wpAnyHL_take (i := 2) (oi := ?_) (v := ?_) ?_ ?_ ?_ ?_ ?_ ?_ ?_ ?_ ?_ (Or.inl ⟨?_, ?_⟩) ?_ ?_
  rotate_left 2
  focus (simp only [List.getElem?_toArray, List.getElem?_cons_succ, List.getElem?_cons_zero]; exact rfl)
  iterate 7 focus kernel_rfl
  focus (exact fun _ _ _ h => h)
  focus rfl
  focus ((intro wSw hSw; (have hSw := hSw.out); (try dsimp only at hSw); go_simp) <;> with_reducible rfl)
  focus assumption
  try simp only [Act.put, List.setIfInBounds_toArray, List.set_cons_zero, List.set_cons_succ]
  cases second
  focus
    refine wpAnyHL_one (i := 3) (o := ?_) (by kernel_rfl) (by kernel_rfl) ?_ ?_
    rotate_left 1
    focus (simp only [List.getElem?_toArray, List.getElem?_cons_succ, List.getElem?_cons_zero]; exact rfl)
    go_wp2
    try dsimp only [StepQ]
    refine ⟨?_, fun hHeld => ?_⟩
    focus (exact Lib.hid (hHeld.out))
    try simp only [Act.put, List.setIfInBounds_toArray, List.set_cons_zero, List.set_cons_succ]
    refine wpAnyHL_one (i := 4) (o := ?_) (by kernel_rfl) (by kernel_rfl) ?_ ?_
    rotate_left 1
    focus (simp only [List.getElem?_toArray, List.getElem?_cons_succ, List.getElem?_cons_zero]; exact rfl)
    go_wp2
    try dsimp only [StepQ]
    refine ⟨?_, fun hHeld => ?_⟩
    focus (exact Lib.hid (hHeld.out))
    try simp only [Act.put, List.setIfInBounds_toArray, List.set_cons_zero, List.set_cons_succ]
    refine wpAnyHL_one (i := 5) (o := ?_) (by kernel_rfl) (by kernel_rfl) ?_ ?_
    rotate_left 1
    focus (simp only [List.getElem?_toArray, List.getElem?_cons_succ, List.getElem?_cons_zero]; exact rfl)
    go_wp2
    try dsimp only [StepQ]
    refine ⟨?_, fun hHeld => ?_⟩
    focus (exact Lib.hid (hHeld.out))
    try simp only [Act.put, List.setIfInBounds_toArray, List.set_cons_zero, List.set_cons_succ]
    refine wpAnyHL_one (i := 6) (o := ?_) (by kernel_rfl) (by kernel_rfl) ?_ ?_
    rotate_left 1
    focus (simp only [List.getElem?_toArray, List.getElem?_cons_succ, List.getElem?_cons_zero]; exact rfl)
    go_wp2
    try dsimp only [StepQ]
    refine ⟨?_, fun hHeld => ?_⟩
    focus (exact Lib.hid (hHeld.out))
    try simp only [Act.put, List.setIfInBounds_toArray, List.set_cons_zero, List.set_cons_succ]
    refine wpAnyHL_done (by kernel_rfl) ?_
    try simp only [List.drop_succ_cons, List.drop_zero]
    go_wp2_with (go_at_call 103; refine (must_no g _ _).mono ?_; rintro r W20 ⟨rfl, hk20⟩)
    refine KEY.out _ _ _ _ _ _ _ _ _ ?_
    exact ⟨keeps_drew (Keeps.refl _) |>.trans hk20, fun h => by cases h⟩
  focus
    refine wpAnyHL_take (i := 3) (oi := ?_) (v := ?_) ?_ ?_ ?_ ?_ ?_ ?_ ?_ ?_ ?_ (Or.inl ⟨?_, ?_⟩) ?_ ?_
    rotate_left 2
    focus (simp only [List.getElem?_toArray, List.getElem?_cons_succ, List.getElem?_cons_zero]; exact rfl)
    iterate 7 focus kernel_rfl
    focus (exact fun _ _ _ h => h)
    focus rfl
    focus (intro wSw hSw; (have hSw := hSw.out); (refine run_load_row 46 (.tmp 3) ?_ q 0 ?_ _ _ hSw.2 Tryz.underlying46 rfl (sz_tx _ _ _ _)) <;> rfl)
    focus assumption
    try simp only [Act.put, List.setIfInBounds_toArray, List.set_cons_zero, List.set_cons_succ]
    refine wpAnyHL_one (i := 4) (o := ?_) (by kernel_rfl) (by kernel_rfl) ?_ ?_
    rotate_left 1
    focus (simp only [List.getElem?_toArray, List.getElem?_cons_succ, List.getElem?_cons_zero]; exact rfl)
    go_wp2_with (go_at_call 53; refine (witnessed_any _ _ _ _ _ _ _ (HRTX.out _ (keeps_drew (Keeps.refl _)))).mono ?_; rintro r W20 ⟨rfl, hk20⟩; have HK20 := Lib.hid hk20; clear hk20)
    try dsimp only [StepQ]
    refine ⟨?_, fun hHeld => ?_⟩
    focus (exact Lib.hid (⟨hHeld.out.1.keeps HK20.out, hHeld.out.2.keeps HK20.out⟩))
    try simp only [Act.put, List.setIfInBounds_toArray, List.set_cons_zero, List.set_cons_succ]
    refine wpAnyHL_take (i := 5) (oi := ?_) (v := ?_) ?_ ?_ ?_ ?_ ?_ ?_ ?_ ?_ ?_ (Or.inl ⟨?_, ?_⟩) ?_ ?_
    rotate_left 2
    focus (simp only [List.getElem?_toArray, List.getElem?_cons_succ, List.getElem?_cons_zero]; exact rfl)
    iterate 7 focus kernel_rfl
    focus (exact fun _ _ _ h => h)
    focus rfl
    focus ((intro wSw hSw; (have hSw := hSw.out); (try dsimp only at hSw); go_simp) <;> with_reducible rfl)
    focus assumption
    try simp only [Act.put, List.setIfInBounds_toArray, List.set_cons_zero, List.set_cons_succ]
    refine wpAnyHL_take (i := 6) (oi := ?_) (v := ?_) ?_ ?_ ?_ ?_ ?_ ?_ ?_ ?_ ?_ (Or.inl ⟨?_, ?_⟩) ?_ ?_
    rotate_left 2
    focus (simp only [List.getElem?_toArray, List.getElem?_cons_succ, List.getElem?_cons_zero]; exact rfl)
    iterate 7 focus kernel_rfl
    focus (exact fun _ _ _ h => h)
    focus rfl
    focus ((intro wSw hSw; (have hSw := hSw.out); (try dsimp only at hSw); go_simp) <;> with_reducible rfl)
    focus assumption
    try simp only [Act.put, List.setIfInBounds_toArray, List.set_cons_zero, List.set_cons_succ]
    refine wpAnyHL_done (by kernel_rfl) ?_
    try simp only [List.drop_succ_cons, List.drop_zero]
    clear hHeld
    generalize hwd : witnessedD ⟨toI32 x1, ins2, outs, lk⟩ = wd
    have HWD := Lib.hid hwd
    clear hwd
    cases wd
    focus
      go_wp2_with (go_at_call 103; refine (must_yes g _ _).mono ?_; rintro r W23 ⟨rfl, hk23⟩)
      exact ⟨rfl, HCH19.out.trans (((keeps_drew (Keeps.refl _)).trans (HK20.out.trans hk23)).chg _), .inr ⟨3, HE17.out.trans (end_e2 HP18.out ⟨rfl, HWD.out⟩), rfl⟩⟩
    focus
      go_wp2_with (go_at_call 103; refine (must_no g _ _).mono ?_; rintro r W23 ⟨rfl, hk23⟩)
      refine KEY.out _ _ _ _ _ _ _ _ _ ?_
      exact ⟨(keeps_drew (Keeps.refl _)).trans (HK20.out.trans hk23), fun _ => HWD.out⟩
end Go.Proofs.YtcodpdpeklammaaGreatDoor
