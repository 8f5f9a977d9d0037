/- The reference's Decode of a block: what its walk needs. No condition. | The reference's Decode of a block: the walk. -/
import Derived.Test.YtcodpdpeklammaaGreatDoorGE1
import Derived.Test.YtcodpdpeklammaaGreatDoorGD9
import Derived.Test.YtcodpdpeklammaaGreatDoorGC6
namespace Go.Proofs.YtcodpdpeklammaaGreatDoor
set_option linter.unusedVariables false
set_option linter.unusedSimpArgs false
open Go Go.RowKit
/-- what ref10.Decode does -/
def RkDecP (l : List Int) (w : World) (r : Ending) (W : World) : Prop :=
  Keeps w W ∧ ((∃ h txs tv base, decBlk l = .ok (h, txs) ∧ r = .returned (.tuple #[.agg (blkCells h tv).toArray, .int .i64 0]) ∧ HdOk h ∧ w.heap.size ≤ base ∧ RTxs (Btw base W.heap.size) (Btw base W.heap.size) (Btw base W.heap.size) W tv txs) ∨
    (∃ c, decBlk l = .error c ∧ c ≠ 0 ∧ r = .returned (.tuple #[.agg (blkCells (hd0 0) (.slice none 0 0)).toArray, .int .i64 c])))
/-- ref10.Decode's memory: its result, its block, its place in the bytes -/
structure RkL (base p q s : Nat) (w W : World) (bv : Value) (k : Nat) (e : Int) (h : HdD) (tv : Value) (xs : List TxD) (cs : List Value) (ps : List (Value × Value)) : Prop where
  keeps : Keeps w W
  ord : w.heap.size ≤ p ∧ p < q ∧ q < s ∧ s < base ∧ base ≤ W.heap.size
  res : Row W p 0 (blkCells (hd0 0) (.slice none 0 0))
  loc : Row W q 0 (blkCells h tv)
  pos : Row W s 0 [bv, .int .i64 k, .int .i64 e]
  got : GotTs base W tv xs cs ps
variable {base p q s : Nat} {w W W' : World} {bv : Value} {k k' : Nat} {e e' : Int} {h : HdD} {tv : Value} {xs : List TxD} {cs : List Value} {ps : List (Value × Value)}
theorem RkL.keep (t : RkL base p q s w W bv k e h tv xs cs ps) (hk : Keeps W W') : RkL base p q s w W' bv k e h tv xs cs ps := by
  have o := t.ord
  have hs := hk.size
  exact ⟨t.keeps.trans hk, by omega, t.res.keeps hk, t.loc.keeps hk, t.pos.keeps hk, t.got.chg (hk.chg (fun _ => False)) (fun _ _ h => h)⟩
theorem RkL.go (t : RkL base p q s w W bv k e h tv xs cs ps) (hc : Chg (· = s) W W') (hr : Row W' s 0 [bv, .int .i64 k', .int .i64 e']) : RkL base p q s w W' bv k' e' h tv xs cs ps := by
  have o := t.ord
  have hs := hc.size
  exact ⟨keeps_chg t.keeps hc (by omega), by omega, t.res.chg hc (by omega), t.loc.chg hc (by omega), hr, t.got.chg hc (fun k hk e => by omega)⟩
theorem RkL.appended {W1 w9 : World} {v9 iv ov : Value} {d : TxD} {N : Nat} (t : RkL base p q s w W bv k e h tv xs cs ps) (h1 : h.prev.length = 32) (h2 : h.merkle.length = 32) (hk : Keeps W W1) (hN : N ≤ W1.heap.size) (hd : RTx (Btw W.heap.size N) (Btw W.heap.size N) (Btw W.heap.size N) W1 iv ov d)
    (hb : Buf w9 4 v9 (xs.length + 1) (cs ++ txCells d iv ov)) (hc : Chg (fun k => tv.ownBlock = some k) W1 w9) (hs : SameOrNew W1 tv v9) :
    RkL base p q s w (w9.setCell ⟨q, 68, none⟩ v9) bv k e h v9 (xs ++ [d]) (cs ++ txCells d iv ov) (ps ++ [(iv, ov)]) := by
  have o := t.ord
  have hks := hk.size
  have hcs := hc.size
  have hnew : ∀ k, tv.ownBlock = some k → base ≤ k := t.got.new
  have hnp : ∀ k, k < base → ¬ tv.ownBlock = some k := fun k hk e => by have := hnew k e; omega
  have hg9 := t.got.after (by omega) hk hN hd hb hc hs
  have hq : Chg (· = q) w9 (w9.setCell ⟨q, 68, none⟩ v9) := Chg.cell q 68 _
  have hkw : Keeps w w9 := Below.trans (t.keeps.trans hk) (hc.below (t.keeps.trans hk).size (fun k hk2 e => by have := hnew k e; omega))
  have hloc : Row w9 q 0 (blkCells h tv) := (t.loc.keeps hk).chg hc (hnp q (by omega))
  have hset := hloc.set 68 (by rw [blkCells_len _ h1 h2]; omega) v9
  rw [Nat.zero_add, blk_set68 _ _ h1 h2] at hset
  refine ⟨keeps_chg hkw hq (by omega), ?_, ((t.res.keeps hk).chg hc (hnp p (by omega))).chg hq (by omega), hset, ((t.pos.keeps hk).chg hc (hnp s (by omega))).chg hq (by omega), hg9.chg hq (fun k hk e => by omega)⟩
  have := hq.size; omega
/-- how far the reference is: still reading, or failed -/
def RkLink (l : List Int) (n : Nat) (l4 : List Int) (hd : HdD) (i : Nat) (k : Nat) (e : Int) (xs : List TxD) : Prop :=
  (e = 0 ∧ rdBlk l = rdBlk2 hd n l4 ∧ rdMany rdTxE i l4 = .ok (xs, l.drop k)) ∨ (e ≠ 0 ∧ rdBlk l = .error e)
end Go.Proofs.YtcodpdpeklammaaGreatDoor
namespace Go.Proofs.YtcodpdpeklammaaGreatDoor
set_option linter.unusedVariables false
set_option linter.unusedSimpArgs false
open Go Go.RowKit
theorem headOf_ok {l : List Int} (hb : Bytes l) (h : 80 ≤ l.length) : HdOk (headOf l) := by
  have f : ∀ i, 0 ≤ leV ((l.drop i).take 4) ∧ leV ((l.drop i).take 4) < 4294967296 := fun i => leV_four hb
  have f0 := f 0
  rw [List.drop_zero] at f0
  exact ⟨toI32_range f0.1 f0.2, by simp [headOf]; omega, bytes_take (bytes_drop hb _) _, by simp [headOf]; omega, bytes_take (bytes_drop hb _) _, f 68, f 72, f 76⟩
theorem built_in80 (a : Option Addr) (n c : Nat) : Tryz.prog.built 81 [(0, .slice a n c), (1, .int .i64 80)] = some #[.slice a n c, .int .i64 80, .int .i64 0] := by kernel_rfl
set_option maxRecDepth 100000 in
set_option maxHeartbeats 4000000 in
theorem rkdec_any (S : Nat → Prop) (bv : Value) (l : List Int) (w : World) (hb : RB S w bv l) :
    Calls Tryz.prog 15 #[bv] w (RkDecP l w) := by
  have HB := Lib.hid hb
  obtain ⟨ad, cap, rfl, hlc, hcm, hnil⟩ := hb.any
  have hsm := hb.small
  have hby := hb.bytes
  have HBY := Lib.hid hby
  clear hb hby
  obtain ⟨i0, z0, hi, hz0, hz1, hz2, hz3⟩ := info2_any tx_info tx_zero
  have HI := Lib.hid hi; have HZ0 := Lib.hid hz0; have HZ1 := Lib.hid hz1; have HZ2 := Lib.hid hz2; have HZ3 := Lib.hid hz3
  clear hi hz0 hz1 hz2 hz3
  go_enter Tryz.func15, Tryz.ntmps15
  go_upto_region 1 with (fail)
  refine wp_rows1r (fun W0 hk hr1 hsz => ?_)
  obtain ⟨p, hp⟩ : ∃ p, p = w.heap.size := ⟨_, rfl⟩
  rw [← hp] at hr1 hsz ⊢
  have HP := Lib.hid hp; have HSZ := Lib.hid hsz; have HK := Lib.hid hk
  have HR1 := Lib.hid (show Row W0 p 0 (blkCells (hd0 0) (.slice none 0 0)) from hr1)
  clear hp hsz hk hr1
  by_cases hbig : 1000000 < l.length
  · have hb2 : (1000000 : Int) < (l.length : Int) := by omega
    go_wp2_with (first
      | ((with_reducible refine gate_build 29 _ ?_); refine wpList_build_at rfl 29 _ rfl [] ?_ _ built_blk0 ?_; focus rfl)
      | ((with_reducible refine gate_store 29 (.tmp 2) (.tmp 14) ?_); refine wpList_store_row rfl 29 (.tmp 2) (.tmp 14) rfl p 0 rfl (blkCells (hd0 0) (.slice none 0 0)) (blkCells (hd0 0) (.slice none 0 0)) rfl HR1.out rfl (bd_sz_blk _ rfl rfl) (blkCells_one _ _ _ _) ?_; intro W5 hr5 hc5; have HR5 := Lib.hid hr5; have HC5 := Lib.hid hc5; clear hr5 hc5))
    refine bodyPost_ret (results_cell_tmp (t := 3) (p := 2) rfl _ _ p 0 _ _ _ rfl rfl HR5.out Tryz.underlying29 rfl (bd_sz_blk _ rfl rfl)) rfl ?_
    exact ⟨keeps_chg HK.out HC5.out (by have := HP.out; omega), .inr ⟨2, decBlk_big hbig, by decide, rfl⟩⟩
  have hb2 : ¬ (1000000 : Int) < (l.length : Int) := by omega
  have HBIG := Lib.hid hbig
  by_cases h80 : l.length < 80
  · have hb3 : (l.length : Int) < (80 : Int) := by omega
    go_wp2_with (first
      | ((with_reducible refine gate_build 29 _ ?_); refine wpList_build_at rfl 29 _ rfl [] ?_ _ built_blk0 ?_; focus rfl)
      | ((with_reducible refine gate_store 29 (.tmp 2) (.tmp 18) ?_); refine wpList_store_row rfl 29 (.tmp 2) (.tmp 18) rfl p 0 rfl (blkCells (hd0 0) (.slice none 0 0)) (blkCells (hd0 0) (.slice none 0 0)) rfl HR1.out rfl (bd_sz_blk _ rfl rfl) (blkCells_one _ _ _ _) ?_; intro W5 hr5 hc5; have HR5 := Lib.hid hr5; have HC5 := Lib.hid hc5; clear hr5 hc5))
    refine bodyPost_ret (results_cell_tmp (t := 3) (p := 2) rfl _ _ p 0 _ _ _ rfl rfl HR5.out Tryz.underlying29 rfl (bd_sz_blk _ rfl rfl)) rfl ?_
    exact ⟨keeps_chg HK.out HC5.out (by have := HP.out; omega), .inr ⟨4, decBlk_err HBIG.out (blk_e1 (rdHead_short h80)), by decide, rfl⟩⟩
  have hb3 : ¬ (l.length : Int) < (80 : Int) := by omega
  have hl80 : 80 ≤ l.length := by omega
  have HOK := Lib.hid (headOf_ok HBY.out hl80)
  have HHD := Lib.hid (rdHead_of hl80)
  go_upto_region 6 with (first
    | (go_at_call 40; refine (rhead_any _ l W0 (HB.out.rd.keeps HK.out) HBY.out hl80).mono ?_; rintro r W1 ⟨hk1, rfl⟩; have HK1 := Lib.hid hk1; clear hk1)
    | ((with_reducible refine gate_build 29 _ ?_); refine wpList_build_at rfl 29 _ rfl [(0, .agg (hdCells (headOf l)).toArray)] ?_ _ (built_blk HOK.out.prevLen HOK.out.merkleLen) ?_; focus (simp only [List.map_toArray, List.map_cons, List.map_nil]; rfl))
    | ((with_reducible refine gate_store 29 (.tmp 4) (.tmp 21) ?_); refine wpList_store_row rfl 29 (.tmp 4) (.tmp 21) rfl W1.heap.size 0 rfl (blkCells (hd0 0) (.slice none 0 0)) (blkCells (headOf l) (.slice none 0 0)) rfl (Row.new _ _ _ rfl) (by rw [blkCells_len _ HOK.out.prevLen HOK.out.merkleLen, blkCells_len _ rfl rfl]) (bd_sz_blk _ HOK.out.prevLen HOK.out.merkleLen) (blkCells_one _ _ _ _) ?_; intro W2 hr2 hc2; have HR2 := Lib.hid hr2; have HC2 := Lib.hid hc2; clear hr2 hc2))
  have hka : Keeps W1 (W1.alloc (.cells (blkCells (hd0 0) (.slice none 0 0)).toArray 29)) := keeps_alloc (Keeps.refl _) _
  have hk12 : Keeps W1 W2 := keeps_chg hka HC2.out (Nat.le_refl _)
  have hk02 : Keeps W0 W2 := HK1.out.trans hk12
  have hlt2 := HR2.out.lt (by simp [blkCells, hdCells, headCells])
  have HRP := Lib.hid (HR1.out.keeps hk02); have HKW := Lib.hid (HK.out.trans hk02)
  have hpq : p < W1.heap.size := by have h1 := HSZ.out; have h2 := HK1.out.size; omega
  have HPQ := Lib.hid hpq; have HLT2 := Lib.hid hlt2
  clear hka hk12 hk02 hlt2 hpq HC2 HK1
  generalize W1.heap.size = q at *
  go_upto_region 7 with (first
    | ((with_reducible refine gate_build 81 _ ?_); refine wpList_build_at rfl 81 _ rfl [(0, .slice ad l.length cap), (1, .int .i64 80)] ?_ _ (built_in80 ad l.length cap) ?_; focus (simp only [List.map_toArray, List.map_cons, List.map_nil]; rfl))
    | (go_at_call 41; refine (rcompact_any S (.slice ad l.length cap) l 80 0 W2 (HB.out.keeps HKW.out) hl80).mono ?_; intro r W3 hpst; obtain ⟨hk3, x, val, k3, e3, rfl, hkl3, hrr3, henc3, hx0, hx1⟩ := hpst; subst henc3; have HK3 := Lib.hid hk3; have HL3 := Lib.hid hkl3; have HR3 := Lib.hid hrr3; have HX3 := Lib.hid (And.intro hx0 hx1); clear hk3 hkl3 hrr3 hx0 hx1; unfold inV)
    | ((with_reducible refine gate_store 81 (.tmp 6) (.tmp 27) ?_); refine wpList_store_row rfl 81 (.tmp 6) (.tmp 27) rfl W3.heap.size 0 rfl [.slice none 0 0, .int .i64 0, .int .i64 0] [.slice ad l.length cap, .int .i64 k3, .int .i64 e3] rfl (Row.new _ _ _ rfl) rfl (sz_inv _ _ _) (three_one _ _ _ _ _) ?_; intro W4 hr4 hc4; have HR4 := Lib.hid hr4; have HC4 := Lib.hid hc4; clear hr4 hc4))
  have hst : RkL (W3.heap.size + 1) p q W3.heap.size w W4 (.slice ad l.length cap) k3 e3 (headOf l) (.slice none 0 0) [] [] [] := by
    have hka : Keeps W3 (W3.alloc (.cells #[.slice none 0 0, .int .i64 0, .int .i64 0] 81)) := keeps_alloc (Keeps.refl _) _
    have hk34 : Keeps W3 W4 := keeps_chg hka HC4.out (Nat.le_refl _)
    have h1 := HK3.out.size
    have h2 := HLT2.out
    have h3 := HPQ.out
    have h4 := HP.out
    have h5 := HR4.out.lt (by simp)
    exact ⟨HKW.out.trans (HK3.out.trans hk34), by omega, HRP.out.keeps (HK3.out.trans hk34), HR2.out.keeps (HK3.out.trans hk34), HR4.out, GotTs.nil _ _⟩
  have HST := Lib.hid hst
  clear hst HR4 HC4 HRP HKW HR2 HSZ HK HLT2 HPQ HR1 HK3
  generalize hbase : W3.heap.size + 1 = base at *
  generalize W3.heap.size = s at *
  clear hbase
  have hln : ∃ n : Nat, (¬ (e3 = 0 ∧ 10000 < x) → n ≤ 10000) ∧ (e3 = 0 → IntKind.i64.wrap x = n ∧ x = n) ∧ ((e3 = 0 ∧ rdSize (l.drop 80) = .ok ((n : Int), l.drop k3)) ∨ (e3 ≠ 0 ∧ rdBlk l = .error e3)) := by
    rcases HR3.out with ⟨h, _⟩ | ⟨_, h, hp⟩ | ⟨_, h, hp⟩
    · exact absurd rfl h
    · obtain ⟨a1, a2, _⟩ := rdSize_inv (bytes_drop HBY.out 80) hp
      obtain ⟨n, rfl⟩ := Int.eq_ofNat_of_zero_le a1
      exact ⟨n, fun hh => by have : ¬ (10000 : Int) < n := fun h2 => hh ⟨h, h2⟩; omega, fun _ => ⟨by rw [IntKind.wrap_i64]; omega, rfl⟩, .inl ⟨h, hp⟩⟩
    · exact ⟨0, fun _ => by omega, fun h2 => absurd h2 h, .inr ⟨h, blk_e2 HHD.out hp⟩⟩
  obtain ⟨n, hn1, hn2, hn3⟩ := hln
  have HN1 := Lib.hid hn1; have HN2 := Lib.hid hn2; have HN3 := Lib.hid hn3
  clear hn1 hn2 hn3 HR3
  have hx64 := HX3.out
  go_upto_region 7 with (fail)
  rename_i KG hKG
  refine wp_join2 [22, 23, 24, 25, 26, 27, 28, 29, 30, 31, 32, 33, 34] (fun us W => W4 = W ∧ ∃ bt : Bool, us.getD 12 undef = .bool bt ∧ (bt = true → e3 = 0 ∧ 10000 < x) ∧ (bt = false → ¬ (e3 = 0 ∧ 10000 < x))) hKG (fun key0 => ?_) ?_
  focus
    have key := fun vA1 vA2 vA3 vA4 vA5 vA6 vA7 vA8 vA9 vA10 vA11 vA12 vA13 w' => key0 [vA1, vA2, vA3, vA4, vA5, vA6, vA7, vA8, vA9, vA10, vA11, vA12, vA13] w' rfl
    clear key0 hKG
    simp only [putAll, Act.put, List.setIfInBounds_toArray, List.set_cons_zero, List.set_cons_succ] at key
    have KEY := Lib.hid key
    clear key
    obtain ⟨⟨c0, c1, c2⟩, f1, f2⟩ := HST.out.pos.cell3
    by_cases he : e3 = 0
    focus
      have HE := Lib.hid he
      by_cases hbx : 10000 < x
      focus
        have HBX := Lib.hid hbx
        go_wp2
        refine KEY.out _ _ _ _ _ _ _ _ _ _ _ _ _ _ ?_
        exact ⟨rfl, true, by show Value.bool _ = _; first | rfl | simp [HE.out], fun _ => ⟨HE.out, HBX.out⟩, fun h => by simp at h⟩
      focus
        have HBX := Lib.hid hbx
        go_wp2
        refine KEY.out _ _ _ _ _ _ _ _ _ _ _ _ _ _ ?_
        exact ⟨rfl, false, by show Value.bool _ = _; first | rfl | simp [HE.out], fun h => by simp at h, fun _ h => by have h1 := HBX.out; have h2 := h.2; omega⟩
    focus
      have HE := Lib.hid he
      go_wp2
      refine KEY.out _ _ _ _ _ _ _ _ _ _ _ _ _ _ ?_
      exact ⟨rfl, false, by show Value.bool _ = _; first | rfl | simp [HE.out], fun h => by simp at h, fun _ h => HE.out h.1⟩
  intro us WG hl hj
  match us, hl with
  | [vA1, vA2, vA3, vA4, vA5, vA6, vA7, vA8, vA9, vA10, vA11, vA12, vA13], _ =>
  obtain ⟨rfl, bA, hu, hb1, hb2⟩ := hj
  obtain rfl : vA13 = .bool bA := hu
  simp only [putAll, Act.put, List.setIfInBounds_toArray, List.set_cons_zero, List.set_cons_succ]
  have HG1 := Lib.hid hb1; have HG2 := Lib.hid hb2
  clear hb1 hb2 hl hKG KG
  cases bA
  rotate_left
  focus
    obtain ⟨he, hbx⟩ := HG1.out rfl
    have hbe : rdBlk l = .error 2 := by
      rcases HN3.out with ⟨_, hs⟩ | ⟨h, _⟩
      · exact blk_e3 HHD.out hs (by rw [← (HN2.out he).2]; exact hbx)
      · exact absurd he h
    have HBE := Lib.hid hbe
    clear hbe hbx he
    go_wp2_with (first
      | ((with_reducible refine gate_build 29 _ ?_); refine wpList_build_at rfl 29 _ rfl [] ?_ _ built_blk0 ?_; focus rfl)
      | ((with_reducible refine gate_store 29 (.tmp 2) (.tmp 35) ?_); refine wpList_store_row rfl 29 (.tmp 2) (.tmp 35) rfl p 0 rfl (blkCells (hd0 0) (.slice none 0 0)) (blkCells (hd0 0) (.slice none 0 0)) rfl HST.out.res rfl (bd_sz_blk _ rfl rfl) (blkCells_one _ _ _ _) ?_; intro W5 hr5 hc5; have HR5 := Lib.hid hr5; have HC5 := Lib.hid hc5; clear hr5 hc5))
    refine bodyPost_ret (results_cell_tmp (t := 3) (p := 2) rfl _ _ p 0 _ _ _ rfl rfl HR5.out Tryz.underlying29 rfl (bd_sz_blk _ rfl rfl)) rfl ?_
    exact ⟨keeps_chg HST.out.keeps HC5.out (by have := HST.out.ord; omega), .inr ⟨2, decBlk_err HBIG.out HBE.out, by decide, rfl⟩⟩
  have hnb : n ≤ 10000 := HN1.out (HG2.out rfl)
  have hlk : RkLink l n (l.drop k3) (headOf l) 0 k3 e3 [] := by
    rcases HN3.out with ⟨h, hs⟩ | h
    · refine .inl ⟨h, ?_, rfl⟩
      have := blk_go HHD.out hs (by omega)
      rwa [Int.toNat_natCast] at this
    · exact .inr h
  have HLK := Lib.hid hlk
  clear hlk HN3 HG1 HG2 HN1
  generalize hy : IntKind.i64.wrap x = y at *
  go_upto_region 10 with (fail)
  go_loopw [7] (fun c wr => ∃ i : Nat, i ≤ n ∧ c = .int .i64 i ∧ ∃ k e tv xs cs ps, Hid (RkL base p q s w wr (.slice ad l.length cap) k e (headOf l) tv xs cs ps) ∧ Hid (RkLink l n (l.drop k3) (headOf l) i k e xs) ∧ Hid (k ≤ l.length) ∧ Hid (e = 0 → y = n ∧ xs.length = i)) (fun c _ => (10001 - intOf c).toNat)
  case atStart => exact ⟨0, by omega, rfl, k3, e3, _, _, _, _, HST, HLK, HL3, Lib.hid (fun h => ⟨(HN2.out h).1, rfl⟩)⟩
  case round =>
    obtain ⟨i, hi, rfl, k, e, tv, xs, cs, ps, HS, HLI, HKL, HYN⟩ := hrel
    clear HST HLK HL3 HN2
    obtain ⟨va, vc, rfl⟩ := HS.out.got.any
    go_upto_region 10 with (fail)
    rename_i KG hKG
    refine wp_join2 [36, 37, 38, 39, 40, 41, 42, 43, 44] (fun us W => wr = W ∧ ∃ bt : Bool, us.getD 8 undef = .bool bt ∧ (bt = true → e = 0 ∧ (i : Int) < y) ∧ (bt = false → e = 0 → ¬ (i : Int) < y)) hKG (fun key0 => ?_) ?_
    focus
      have key := fun vA1 vA2 vA3 vA4 vA5 vA6 vA7 vA8 vA9 w' => key0 [vA1, vA2, vA3, vA4, vA5, vA6, vA7, vA8, vA9] w' rfl
      clear key0 hKG
      simp only [putAll, Act.put, List.setIfInBounds_toArray, List.set_cons_zero, List.set_cons_succ] at key
      have KEY := Lib.hid key
      clear key
      obtain ⟨⟨c0, c1, c2⟩, f1, f2⟩ := HS.out.pos.cell3
      by_cases hlt : (i : Int) < y
      focus
        by_cases he : e = 0
        focus
          have HE := Lib.hid he; have HLT := Lib.hid hlt
          go_wp2
          refine KEY.out _ _ _ _ _ _ _ _ _ _ ?_
          exact ⟨rfl, true, by show Value.bool _ = _; first | rfl | simp [HE.out], fun _ => ⟨HE.out, HLT.out⟩, fun h => by simp at h⟩
        focus
          have HE := Lib.hid he
          go_wp2
          refine KEY.out _ _ _ _ _ _ _ _ _ _ ?_
          exact ⟨rfl, false, by show Value.bool _ = _; first | rfl | simp [HE.out], fun h => by simp at h, fun _ h => absurd h HE.out⟩
      focus
        have HLT := Lib.hid hlt
        go_wp2
        refine KEY.out _ _ _ _ _ _ _ _ _ _ ?_
        exact ⟨rfl, false, by show Value.bool _ = _; first | rfl | simp, fun h => by simp at h, fun _ _ => HLT.out⟩
    intro us WG hl hj
    match us, hl with
    | [vA1, vA2, vA3, vA4, vA5, vA6, vA7, vA8, vA9], _ =>
    obtain ⟨rfl, bA, hu, hb1, hb2⟩ := hj
    obtain rfl : vA9 = .bool bA := hu
    simp only [putAll, Act.put, List.setIfInBounds_toArray, List.set_cons_zero, List.set_cons_succ]
    have HG1 := Lib.hid hb1; have HG2 := Lib.hid hb2
    clear hb1 hb2 hl hKG KG
    cases bA
    focus
      obtain ⟨⟨c0, c1, c2⟩, f1, f2⟩ := HS.out.pos.cell3
      by_cases he : e = 0
      focus
        subst he
        obtain ⟨hyn, hxl⟩ := HYN.out rfl
        obtain rfl : i = n := by have := HG2.out rfl rfl; omega
        obtain ⟨hgo, hmm⟩ : rdBlk l = rdBlk2 (headOf l) i (l.drop k3) ∧ rdMany rdTxE i (l.drop k3) = .ok (xs, l.drop k) := by
          rcases HLI.out with ⟨_, a, b⟩ | ⟨h, _⟩
          · exact ⟨a, b⟩
          · exact absurd rfl h
        have HGO := Lib.hid hgo; have HMM := Lib.hid hmm; have HXL := Lib.hid hxl
        clear hgo hmm hxl hyn HLI HYN HG1 HG2
        by_cases hk : k < l.length
        focus
          have hk2 : (k : Int) < (l.length : Int) := by omega
          have HKK := Lib.hid hk
          go_wp2_with (first
            | ((with_reducible refine gate_build 29 _ ?_); refine wpList_build_at rfl 29 _ rfl [] ?_ _ built_blk0 ?_; focus rfl)
            | ((with_reducible refine gate_store 29 (.tmp 2) (.tmp 81) ?_); refine wpList_store_row rfl 29 (.tmp 2) (.tmp 81) rfl p 0 rfl (blkCells (hd0 0) (.slice none 0 0)) (blkCells (hd0 0) (.slice none 0 0)) rfl HS.out.res rfl (bd_sz_blk _ rfl rfl) (blkCells_one _ _ _ _) ?_; intro WZ hrz hcz; have HRZ := Lib.hid hrz; have HCZ := Lib.hid hcz; clear hrz hcz))
          refine bodyPost_ret (results_cell_tmp (t := 3) (p := 2) rfl _ _ p 0 _ _ _ rfl rfl HRZ.out Tryz.underlying29 rfl (bd_sz_blk _ rfl rfl)) rfl ?_
          exact ⟨keeps_chg HS.out.keeps HCZ.out (by have := HS.out.ord; omega), .inr ⟨3, decBlk_err HBIG.out (by rw [HGO.out]; exact blk2_left HMM.out (by have := HKK.out; simp; omega)), by decide, rfl⟩⟩
        focus
          have hk2 : ¬ (k : Int) < (l.length : Int) := by omega
          have HKK := Lib.hid hk
          go_wp2_with (first
            | ((with_reducible refine gate_load 29 (.tmp 4) ?_); refine wpList_load_at rfl 29 (.tmp 4) rfl q 0 rfl _ _ HS.out.loc Tryz.underlying29 rfl (bd_sz_blk _ HOK.out.prevLen HOK.out.merkleLen) ?_)
            | ((with_reducible refine gate_store 29 (.tmp 2) (.tmp 82) ?_); refine wpList_store_row rfl 29 (.tmp 2) (.tmp 82) rfl p 0 rfl (blkCells (hd0 0) (.slice none 0 0)) (blkCells (headOf l) _) rfl HS.out.res (by rw [blkCells_len _ HOK.out.prevLen HOK.out.merkleLen, blkCells_len _ rfl rfl]) (bd_sz_blk _ HOK.out.prevLen HOK.out.merkleLen) (blkCells_one _ _ _ _) ?_; intro WZ hrz hcz; have HRZ := Lib.hid hrz; have HCZ := Lib.hid hcz; clear hrz hcz))
          refine bodyPost_ret (results_cell_tmp (t := 3) (p := 2) rfl _ _ p 0 _ _ _ rfl rfl HRZ.out Tryz.underlying29 rfl (bd_sz_blk _ HOK.out.prevLen HOK.out.merkleLen)) rfl ?_
          have hord := HS.out.ord
          have hcz := HCZ.out
          refine ⟨keeps_chg HS.out.keeps hcz (by omega), .inl ⟨headOf l, xs, _, base, decBlk_ok HBIG.out (by rw [HGO.out]; exact blk2_ok HMM.out (by have := HKK.out; simp; omega)), rfl, HOK.out, by omega, ?_⟩⟩
          have hgt := HS.out.got.chg hcz (fun k hk e => by have e : k = p := e; omega)
          exact hgt.txs (by rw [HXL.out]; omega)
      focus
        have hbe : rdBlk l = .error e := by
          rcases HLI.out with ⟨h, _⟩ | ⟨_, h⟩
          · exact absurd h he
          · exact h
        have HBE := Lib.hid hbe; have HE := Lib.hid he
        clear hbe
        go_upto_region 20 with (fail)
        clear he
        refine wp_region_head (S := fun W => Hid ((fun W => W.cell? ⟨s, 2, none⟩ = some (.int .i64 e)) W)) 4 (by kernel_rfl) (by kernel_rfl) ?_ (fun hHeld => ?_)
        focus exact Lib.hid HS.out.pos.drew.cell3.1.2.2
        refine wpAnyHL_take (i := 1) (oi := ?_) (v := ?_) ?_ ?_ ?_ ?_ ?_ ?_ ?_ ?_ ?_ (Or.inl ⟨?_, ?_⟩) ?_ ?_
        rotate_left 2
        focus (simp only [List.getElem?_toArray, List.getElem?_cons_succ, List.getElem?_cons_zero]; exact rfl)
        iterate 7 focus kernel_rfl
        focus (exact fun _ _ _ h => h)
        focus rfl
        focus ((intro wSw hSw; (have hSw := hSw.out); (try dsimp only at hSw); go_simp) <;> with_reducible rfl)
        focus assumption
        try simp only [Act.put, List.setIfInBounds_toArray, List.set_cons_zero, List.set_cons_succ]
        refine wpAnyHL_take (i := 2) (oi := ?_) (v := ?_) ?_ ?_ ?_ ?_ ?_ ?_ ?_ ?_ ?_ (Or.inl ⟨?_, ?_⟩) ?_ ?_
        rotate_left 2
        focus (simp only [List.getElem?_toArray, List.getElem?_cons_succ, List.getElem?_cons_zero]; exact rfl)
        iterate 7 focus kernel_rfl
        focus (exact fun _ _ _ h => h)
        focus rfl
        focus ((intro wSw hSw; (have hSw := hSw.out); (try dsimp only at hSw); go_simp) <;> with_reducible rfl)
        focus assumption
        try simp only [Act.put, List.setIfInBounds_toArray, List.set_cons_zero, List.set_cons_succ]
        refine wpAnyHL_one (i := 0) (o := ?_) (by kernel_rfl) (by kernel_rfl) ?_ ?_
        rotate_left 1
        focus (simp only [List.getElem?_toArray, List.getElem?_cons_succ, List.getElem?_cons_zero]; exact rfl)
        go_wp2_with ((with_reducible refine gate_build 29 _ ?_); refine wpList_build_at rfl 29 _ rfl [] ?_ _ built_blk0 ?_; focus rfl)
        try dsimp only [StepQ]
        refine ⟨?_, fun hHeld => ?_⟩
        focus (exact Lib.hid (hHeld.out))
        try simp only [Act.put, List.setIfInBounds_toArray, List.set_cons_zero, List.set_cons_succ]
        refine wpAnyHL_one (i := 3) (o := ?_) (by kernel_rfl) (by kernel_rfl) ?_ ?_
        rotate_left 1
        focus (simp only [List.getElem?_toArray, List.getElem?_cons_succ, List.getElem?_cons_zero]; exact rfl)
        go_wp2_with ((with_reducible refine gate_store 29 (.tmp 2) (.tmp 73) ?_); refine wpList_store_row rfl 29 (.tmp 2) (.tmp 73) rfl p 0 rfl (blkCells (hd0 0) (.slice none 0 0)) (blkCells (hd0 0) (.slice none 0 0)) rfl HS.out.res.drew rfl (bd_sz_blk _ rfl rfl) (blkCells_one _ _ _ _) ?_; intro W60 hr60 hc60; have HR60 := Lib.hid hr60; have HC60 := Lib.hid hc60; clear hr60 hc60)
        try dsimp only [StepQ]
        refine ⟨?_, fun hHeld => ?_⟩
        focus (exact Lib.hid ((show W60.cell? ⟨s, 2, none⟩ = some (.int .i64 e) from (HS.out.pos.drew.chg HC60.out (by have := HS.out.ord; omega)).cell3.1.2.2)))
        try simp only [Act.put, List.setIfInBounds_toArray, List.set_cons_zero, List.set_cons_succ]
        refine wpAnyHL_done (by kernel_rfl) ?_
        try simp only [List.drop_succ_cons, List.drop_zero]
        go_wp2
        refine bodyPost_ret (results_cell_tmp (t := 3) (p := 2) rfl _ _ p 0 _ _ _ rfl rfl HR60.out Tryz.underlying29 rfl (bd_sz_blk _ rfl rfl)) rfl ?_
        exact ⟨keeps_chg (keeps_drew HS.out.keeps) HC60.out (by have := HS.out.ord; omega), .inr ⟨e, decBlk_err HBIG.out HBE.out, HE.out, rfl⟩⟩
    focus
      obtain ⟨he, hlt⟩ := HG1.out rfl
      subst he
      obtain ⟨rfl, hxl⟩ := HYN.out rfl
      have HXL := Lib.hid hxl; have HLT := Lib.hid hlt
      clear hlt HYN HG1 HG2
      go_upto_region 14 with (first
        | ((with_reducible refine gate_load 81 (.tmp 6) ?_); refine wpList_load_at rfl 81 (.tmp 6) rfl s 0 rfl _ _ HS.out.pos Tryz.underlying81 rfl (sz_inv _ _ _) ?_)
        | (go_at_call 42; refine (rlist_any S (.slice ad l.length cap) l k 0 100000 _ (HB.out.keeps HS.out.keeps) HKL.out).mono ?_; intro r WA hpst; obtain ⟨hka, part, val, k5, e5, rfl, hkl5, hrr5, henc5⟩ := hpst; obtain ⟨pa, pc, rfl⟩ := henc5.1.any; have HE5 := Lib.hid henc5.1; have HPL := Lib.hid henc5.2.1; have HPB := Lib.hid henc5.2.2; have HSA := Lib.hid (HS.out.keep hka); have HL5 := Lib.hid hkl5; have HR5 := Lib.hid hrr5; clear hka hkl5 hrr5 henc5; unfold inV)
        | ((with_reducible refine gate_store 81 (.tmp 6) (.tmp 51) ?_); refine wpList_store_row rfl 81 (.tmp 6) (.tmp 51) rfl s 0 rfl _ [.slice ad l.length cap, .int .i64 k5, .int .i64 e5] rfl HSA.out.pos rfl (sz_inv _ _ _) (three_one _ _ _ _ _) ?_; intro W5 hr5 hc5; have HS5 := Lib.hid (HSA.out.go hc5 hr5); have HC5 := Lib.hid hc5; clear hr5 hc5))
      have hin : i < n := by have := HLT.out; omega
      obtain ⟨hgo, hmm⟩ : rdBlk l = rdBlk2 (headOf l) n (l.drop k3) ∧ rdMany rdTxE i (l.drop k3) = .ok (xs, l.drop k) := by
        rcases HLI.out with ⟨_, a, b⟩ | ⟨h, _⟩
        · exact ⟨a, b⟩
        · exact absurd rfl h
      have HGO := Lib.hid hgo; have HMM := Lib.hid hmm; have HIN := Lib.hid hin
      clear hgo hmm HLI hin hxl
      have hrb5 : RB AnyB W5 (.slice pa part.length pc) part := ⟨HE5.out.rd.chg HC5.out (fun g hg e => by have h1 := HE5.out.new g hg; have h2 := HS.out.ord; have h3 : g = s := e; omega), HPB.out, by have := HPL.out; omega, fun _ _ => trivial⟩
      have HRB := Lib.hid hrb5
      clear hrb5 HE5 HC5
      obtain ⟨⟨c0, c1, c2⟩, f1, f2⟩ := HS5.out.pos.cell3
      by_cases he5 : e5 = 0
      rotate_left
      focus
        have hbe : rdBlk l = .error e5 := by
          rcases HR5.out with ⟨h, _⟩ | ⟨_, h, _⟩ | ⟨_, _, h⟩
          · exact absurd rfl h
          · exact absurd h he5
          · rw [HGO.out]; exact blk2_err (rdMany_stop (rdMany_fail HMM.out (txe_e1 h)) n (by have := HIN.out; omega))
        have HBE := Lib.hid hbe; have HE := Lib.hid he5
        clear hbe
        go_wp2
        go_roundw
        case rel => exact ⟨i + 1, by have := HIN.out; omega, by go_num, k5, e5, _, xs, cs, ps, HS5, Lib.hid (.inr ⟨HE.out, HBE.out⟩), HL5, Lib.hid (fun h => absurd h HE.out)⟩
        case measure => have := HIN.out; simp [intOf]; omega
      focus
        subst he5
        have hp5 : rdList 100000 (l.drop k) = .ok (part, l.drop k5) := by
          rcases HR5.out with ⟨h, _⟩ | ⟨_, _, h⟩ | ⟨_, h, _⟩
          · exact absurd rfl h
          · exact h
          · exact absurd rfl h
        have HP5 := Lib.hid hp5
        clear hp5 HR5
        go_upto_region 16 with (first
          | (go_at_call 43; refine (rdecode_new AnyB _ part _ HRB.out).mono ?_; rintro r W6 ⟨hk6, hcs⟩; have HK6 := Lib.hid hk6; clear hk6; rcases hcs with ⟨d, iv, ov, hd6, rfl, hrt6⟩ | ⟨c6, hd6, rfl⟩; obtain ⟨ia, ic, rfl, -⟩ := hrt6.ins.any; obtain ⟨oa, oc, rfl, -⟩ := hrt6.outs.any)
          | ((with_reducible refine gate_store 46 (.tmp 9) (.tmp 58) ?_); refine wpList_store_row rfl 46 (.tmp 9) (.tmp 58) rfl _ 0 rfl _ (txCells d _ _) rfl (Row.new [.int .i32 0, .slice none 0 0, .slice none 0 0, .int .u32 0] _ _ rfl) rfl (sz_tx _ _ _ _) (four_one _ _ _ _ _ _ _ _) ?_; intro W7 hr7 hc7; have HR7 := Lib.hid hr7; have HC7 := Lib.hid hc7; clear hr7 hc7))
        rotate_left
        focus
          have hc60 : ¬ c6 = 0 := decTx_errs hd6
          have HD6 := Lib.hid hd6; have HC60 := Lib.hid hc60
          have HS7 := Lib.hid (HS5.out.keep HK6.out)
          clear hd6
          go_upto_region 16 with (fail)
          have HS8 := Lib.hid (HS7.out.keep (keeps_alloc (Keeps.refl _) (.cells #[.int .i32 0, .slice none 0 0, .slice none 0 0, .int .u32 0] 46)))
          go_wp2_with (first
            | ((with_reducible refine gate_build 29 _ ?_); refine wpList_build_at rfl 29 _ rfl [] ?_ _ built_blk0 ?_; focus rfl)
            | ((with_reducible refine gate_store 29 (.tmp 2) (.tmp 62) ?_); refine wpList_store_row rfl 29 (.tmp 2) (.tmp 62) rfl p 0 rfl (blkCells (hd0 0) (.slice none 0 0)) (blkCells (hd0 0) (.slice none 0 0)) rfl HS8.out.res rfl (bd_sz_blk _ rfl rfl) (blkCells_one _ _ _ _) ?_; intro WZ hrz hcz; have HRZ := Lib.hid hrz; have HCZ := Lib.hid hcz; clear hrz hcz))
          refine bodyPost_ret (results_cell_tmp (t := 3) (p := 2) rfl _ _ p 0 _ _ _ rfl rfl HRZ.out Tryz.underlying29 rfl (bd_sz_blk _ rfl rfl)) rfl ?_
          exact ⟨keeps_chg HS8.out.keeps HCZ.out (by have := HS8.out.ord; omega), .inr ⟨c6, decBlk_err HBIG.out (by rw [HGO.out]; exact blk2_err (rdMany_stop (rdMany_fail HMM.out (txe_e2 HP5.out HD6.out)) n (by have := HIN.out; omega))), HC60.out, rfl⟩⟩
        have HRT := Lib.hid hrt6
        have HD6 := Lib.hid hd6
        clear hd6 hrt6
        have HK67 := Lib.hid (keeps_chg (keeps_alloc (Keeps.refl W6) _) HC7.out (Nat.le_refl _))
        have HK7 := Lib.hid (HK6.out.trans HK67.out)
        obtain ⟨r8, hr8⟩ : ∃ r8, r8 = W6.heap.size := ⟨_, rfl⟩
        rw [← hr8] at HR7 ⊢
        clear hr8 HC7
        have HBF : Hid (Buf W7 4 (.slice va xs.length vc) xs.length cs) := Lib.hid (HS5.out.got.buf.keeps HK7.out)
        obtain ⟨c7, -⟩ := blk_at68 (HS5.out.loc.keeps HK7.out) HOK.out.prevLen HOK.out.merkleLen
        have hxn : xs.length ≤ 10000 := by have := HXL.out; have := HIN.out; omega
        go_upto_region 11 with (first
          | ((with_reducible refine gate_load 46 (.tmp 9) ?_); refine wpList_load_at rfl 46 (.tmp 9) rfl r8 0 rfl _ _ HR7.out Tryz.underlying46 rfl (sz_tx _ _ _ _) ?_)
          | (refine wpList_buildSlice1 rfl 27 46 _ rfl 4 64 Tryz.underlying27 tx_info tx_zero (by decide) (txCells d _ _) rfl rfl ?_)
          | (at_builtin; refine wpList_append_buf rfl _ _ 27 27 rfl 46 i0 z0 4 64 Tryz.underlying27 HI.out HZ0.out HZ1.out HZ2.out HZ3.out (by decide) (.slice va xs.length vc) xs.length cs rfl (HBF.out.keeps (keeps_alloc (Keeps.refl _) _)) _ rfl 1 (txCells d _ _) (Src.row Tryz.underlying27 rfl (Row.new (txCells d _ _) _ 46 rfl) (four_one _ _ _ _ _ _ _ _)) (by unfold maxLen; omega) (by omega) ?_; intro v9 w9 hb9 hc9 hs9 _; obtain ⟨a9, k9, rfl, -⟩ := hb9.any; obtain ⟨c9, f9⟩ := blk_at68 (((HS5.out.loc.keeps HK7.out).keeps (keeps_alloc (Keeps.refl _) _)).chg hc9 (fun e => by have h1 := HS5.out.got.new _ e; have h2 := HS5.out.ord; omega)) HOK.out.prevLen HOK.out.merkleLen; have HB9 := Lib.hid hb9; have HC9 := Lib.hid hc9; have HS9 := Lib.hid hs9; clear hb9 hc9 hs9))
        have h9 := HS5.out.appended HOK.out.prevLen HOK.out.merkleLen (HK7.out.trans (keeps_alloc (Keeps.refl _) _)) (Nat.le_trans HK67.out.size (keeps_alloc (Keeps.refl _) _).size) ((HRT.out.keeps HK67.out).keeps (keeps_alloc (Keeps.refl _) _)) HB9.out HC9.out HS9.out
        have H9 := Lib.hid h9
        clear h9 HB9 HC9 HS9 c9 f9
        go_wp2
        go_roundw
        case rel => exact ⟨i + 1, by have := HIN.out; omega, by go_num, k5, 0, _, _, _, _, H9, Lib.hid (.inl ⟨rfl, HGO.out, rdMany_next HMM.out (txe_ok HP5.out HD6.out)⟩), HL5, Lib.hid (fun _ => ⟨by first | rfl | trivial, by have := HXL.out; simp [this]⟩)⟩
        case measure => have := HIN.out; simp [intOf]; omega
end Go.Proofs.YtcodpdpeklammaaGreatDoor
