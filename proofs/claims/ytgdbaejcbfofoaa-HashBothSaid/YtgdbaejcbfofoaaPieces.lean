/- HashPieces: the digest of what comes piece by piece. The walk: true, whatever the bytes and the cuts. -/
import Derived.Test.YtgdbaejcbfofoaaAwake
import Derived.Test.YtgdbaejcbfofoaaSpare
import Derived.Lib.QuietBelow
import Derived.Stop.BytesEq
namespace Go.Proofs.Ytgdbaejcbfofoaa
set_option linter.unusedVariables false
set_option linter.unusedSimpArgs false
open Go Go.RowKit

theorem Rd.sub {W : World} {g off n cap i j : Nat} {xs : List Value} (h : Rd W 1 (.slice (some ⟨g, off, none⟩) n cap) n xs) (hi : i ≤ j) (hj : j ≤ n) : Rd W 1 (.slice (some ⟨g, off + i, none⟩) (j - i) (cap - i)) (j - i) ((xs.drop i).take (j - i)) := by
  obtain ⟨h0, a', cap', e, h2, h3, _, h5⟩ := h
  cases e
  refine ⟨by simp; omega, _, _, rfl, by omega, by omega, fun e => (by cases e), fun ad e hn => ?_⟩
  obtain ⟨g', off', e2, hg, hr⟩ := h5 _ rfl (by omega)
  cases e2; cases e
  exact ⟨g, off + i, rfl, hg, (hr.drop i).take _⟩
theorem Rd.head {W : World} {a : Option Addr} {n cap i : Nat} {xs : List Value} (h : Rd W 1 (.slice a n cap) n xs) (hi : i ≤ n) : Rd W 1 (.slice a i cap) i (xs.take i) := by
  obtain ⟨h0, a', cap', e, h2, h3, h4, h5⟩ := h
  cases e
  refine ⟨by simp; omega, _, _, rfl, by omega, by omega, fun e => by have := h4 e; omega, fun ad e hn => ?_⟩
  obtain ⟨g, off, e2, hg, hr⟩ := h5 ad e (by omega)
  exact ⟨g, off, e2, hg, hr.take _⟩
theorem map_sub (zs : List Int) (i k : Nat) : ((zs.map (Value.int .u8)).drop i).take k = (((zs.drop i).take k).map (Value.int .u8)) := by rw [List.map_take, List.map_drop]
theorem Bytes.take {l : List Int} (h : Bytes l) (n : Nat) : Bytes (l.take n) := fun x hx => h x (List.mem_of_mem_take hx)
theorem Bytes.drop {l : List Int} (h : Bytes l) (n : Nat) : Bytes (l.drop n) := fun x hx => h x (List.mem_of_mem_drop hx)
theorem take_more (zs : List Int) (a m : Nat) : zs.take a ++ (zs.drop a).take m = zs.take (a + m) := List.take_add.symm
theorem sz_u8 (W : World) : (sizeOf 5).run Try.prog W = .ok 1 W := by
  obtain ⟨i0, hi, hz0, hz1, hz2⟩ := info_parts u8_info
  simp [sizeOf, typeInfo, hi, hz1]
theorem u8_cell (x : Int) (h0 : 0 ≤ x) (h1 : x < 256) : Value.int .u8 x = Extern.Stop.cell (UInt8.ofNat x.toNat) := by
  obtain ⟨n, rfl⟩ := Int.eq_ofNat_of_zero_le h0
  have hn : n < 256 := by omega
  have : ∀ m : Fin 256, ((UInt8.ofNat m.val).toNat : Nat) = m.val := by decide +kernel
  have h2 := this ⟨n, hn⟩
  show Value.int .u8 (n : Int) = Value.int .u8 ((UInt8.ofNat n).toNat : Int)
  rw [h2]
/-- an array of bytes is the same as itself -/
theorem equal_same (W : World) (t : TypeId) (ht : Try.prog.underlying t = some (.array 32 5)) (xs : List Int) (hx : Bytes xs) (hl : xs.length = 32) :
    (Op.equalIn 10000 t (.agg (xs.map (Value.int .u8)).toArray) (.agg (xs.map (Value.int .u8)).toArray)).run Try.prog W = .ok true W := by
  have e : xs.map (Value.int .u8) = (xs.map fun x => UInt8.ofNat x.toNat).map Extern.Stop.cell := by
    rw [List.map_map]
    exact List.map_congr_left fun x hx' => u8_cell x (hx x hx').1 (hx x hx').2
  have := run_equalIn_bytes (P := Try.prog) W 9998 t 5 32 ht Try.underlying5 sz_u8 (xs.map fun x => UInt8.ofNat x.toNat) (xs.map fun x => UInt8.ofNat x.toNat) (by simp [hl]) (by simp [hl])
  rw [← e] at this
  simpa using this
set_option maxRecDepth 100000 in
theorem short_any (a : Option Addr) (n cap : Nat) (w : World) (hc : n ≤ cap) (hm : cap ≤ maxLen) (hnil : a = none → n = 0) :
    Calls Try.prog 12 #[.slice a n cap] w fun e w' => e = .returned (.slice a (min n 600) cap) ∧ w = w' := by
  by_cases h : 600 < n
  · obtain ⟨⟨b, o, s⟩, rfl⟩ : ∃ ad, a = some ad := by
      cases a with
      | none => have := hnil rfl; omega
      | some ad => exact ⟨ad, rfl⟩
    rw [show min n 600 = 600 by omega]
    unfold maxLen at hm
    have h2 : (600 : Int) ≤ cap := by omega
    go_enter Try.func12, Try.ntmps12
    go_wp2
    go_ret
    exact ⟨rfl, rfl⟩
  · rw [show min n 600 = n by omega]
    go_enter Try.func12, Try.ntmps12
    go_wp2
    go_ret
    exact ⟨rfl, rfl⟩
/-- a Sum of the function's own, to which l has come -/
structure PieceSt (w W : World) (sb : Nat) (l : List Int) : Prop where
  keeps : Keeps w W
  new : w.heap.size ≤ sb
  sum : ∃ wv, SumAt W sb 0 wv l ∧ ∀ g, wv.ownBlock = some g → w.heap.size ≤ g
theorem PieceSt.step {w W W' : World} {sb : Nat} {l : List Int} (h : PieceSt w W sb l) (hk : Keeps W W') : PieceSt w W' sb l := by
  obtain ⟨wv, h1, h2⟩ := h.sum
  exact ⟨h.keeps.trans hk, h.new, wv, h1.keeps hk, h2⟩
theorem SumAt.lt {W : World} {b o : Nat} {wv : Value} {l : List Int} (h : SumAt W b o wv l) : b < W.heap.size := by
  obtain ⟨_, _, ⟨_, _, _, _, hr⟩, _⟩ := h
  exact hr.lt (by simp)
theorem SumAt.len {W : World} {b o : Nat} {wv : Value} {l : List Int} (h : SumAt W b o wv l) : l.length < 1152921504606846976 := h.small
/-- behind Spare at q and Add of its piece -/
theorem PieceSt.added {w W W1 W2 : World} {sb q : Nat} {wv : Value} {l r : List Int} (hk0 : Keeps w W) (hn : w.heap.size ≤ sb) (hs : SumAt W sb 0 wv l) (ho : ∀ g, wv.ownBlock = some g → w.heap.size ≤ g) (hq : q = W.heap.size) (hk : Keeps W W1) (hq1 : q < W1.heap.size) {xs : List Value} (hr : Row W1 q 0 xs)
    (ha : AddPost W1 W2 sb 0 wv (l ++ r)) : ∃ wv', (Keeps w W2 ∧ SumAt W2 sb 0 wv' (l ++ r) ∧ (∀ g, wv'.ownBlock = some g → w.heap.size ≤ g) ∧ Row W2 q 0 xs ∧ wv'.ownBlock ≠ some q ∧ sb ≠ q) := by
  obtain ⟨wv', h1, h2, h3⟩ := ha
  have hsb := hs.lt
  have hwq : ∀ g, wv.ownBlock = some g → g < q := fun g e => by rw [hq]; exact hs.buf.lt e
  have hw1 := hk0.trans hk
  refine ⟨wv', ?_, h1, ?_, hr.chg h2 ?_, ?_, by omega⟩
  · refine Below.trans hw1 (h2.below hw1.size (fun k hk2 e => ?_))
    rcases e with e | e
    · omega
    · have := ho k e; omega
  · intro g e
    rcases h3 g e with e2 | e2
    · exact ho g e2
    · have := hw1.size; omega
  · rintro (e | e)
    · omega
    · have := hwq q e; omega
  · intro e
    rcases h3 q e with e2 | e2
    · have := hwq q e2; omega
    · omega
theorem rgB {f : FuncId} {args : Array Value} {W : World} {p : Regrown} {v : Value} (h : Calls Try.prog f args (Go.Sort.grow (redrawn W p.d) p.os) fun e w' => e = .returned v ∧ Keeps (Go.Sort.grow (redrawn W p.d) p.os) w') :
    Calls Try.prog f args (Go.Sort.grow (redrawn W p.d) p.os) fun e w'' => e = .returned v ∧ ∃ q : Regrown, w'' = Go.Sort.grow (redrawn W q.d) q.os := Calls.regrown_of h
theorem sum_own {W : World} {sb : Nat} {wv : Value} {l : List Int} (h : SumAt W sb 0 wv l) (W' : World) (hk : Keeps W W') : SumAt W' sb 0 wv l := h.keeps hk
/-- the same array twice, in a region that only reads -/
theorem quiet_eql_same {P : Program} {C : World → Prop} {a : Act} {o : Oper} {K : Act → Prop} (t t' : TypeId) (x y : Operand) (ho : o.op = .binOp .eql t x y t') (A : Array Value) (hx : a.eval x = .agg A) (hy : a.eval y = .agg A)
    (hE : ∀ W, (Op.equalIn 10000 t (.agg A) (.agg A)).run P W = .ok true W) (hm : P.eqGuardType P.depth t = false) (hk : K (a.put o.dst (.bool true))) : o.quiet P a C K :=
  ⟨.bool true, fun w _ => by
    have h : (execOp a.eval o).run P w = .ok (.value (.bool true)) w := by
      unfold execOp
      simp only [ho, hx, hy]
      simp only [Sem.run_bind, Sem.run_pure, run_eqGuard_agg _ _ _ _ _ _ _ hm, run_eql_struct, hE, Result.andThen_ok]
    unfold Oper.quietAt
    rw [h]
    exact ⟨rfl, rfl⟩, hk⟩
set_option maxRecDepth 100000 in
set_option maxHeartbeats 4000000 in
theorem pieces_any (a : Option Addr) (len cap : Nat) (zs : List Int) (b2 : Option Addr) (len2 cap2 : Nat) (ys : List Int) (w : World)
    (hr : Rd w 1 (.slice a len cap) len (zs.map (Value.int .u8))) (hz : Bytes zs) (hl2 : len2 ≤ maxLen)
    (hys : ∀ j, j < len2 → ∃ g off, b2 = some ⟨g, off, none⟩ ∧ g < w.heap.size ∧ w.cell? ⟨g, off + j, none⟩ = some (.int .i64 (ys.getD j 0)) ∧ -9223372036854775808 ≤ ys.getD j 0 ∧ ys.getD j 0 < 9223372036854775808) :
    Calls Try.prog 3 #[.slice a len cap, .slice b2 len2 cap2] w fun e w' => e = .returned (.bool true) ∧ Keeps w w' := by
  have hsh : ∀ W, Calls Try.prog 12 #[.slice a len cap] W fun e w' => e = .returned (.slice a (min len 600) cap) ∧ W = w' := fun W => by
    obtain ⟨_, a', cap', e, h2, h3, h4, _⟩ := hr
    cases e
    exact short_any a len cap W h2 h3 (fun e => (h4 e).1)
  have hr6 : Rd w 1 (.slice a (min len 600) cap) (min len 600) ((zs.take (min len 600)).map (Value.int .u8)) := by
    obtain ⟨h0, a', cap', e, h2, h3, h4, h5⟩ := hr
    cases e
    have h0' : zs.length = len := by simpa using h0
    refine ⟨by simp; omega, _, _, rfl, by omega, h3, fun e => by have := h4 e; omega, fun ad e hn => ?_⟩
    obtain ⟨g, off, e2, hg, hrw⟩ := h5 ad e (by omega)
    refine ⟨g, off, e2, hg, ?_⟩
    rw [List.map_take]; exact hrw.take _
  have hzl : (zs.take (min len 600)).length = min len 600 := by have h0 : zs.length = len := by simpa using hr.1
                                                                simp; omega
  have hN : min len 600 ≤ 600 := by omega
  have hzb := hz.take (min len 600)
  have hcm : min len 600 ≤ cap ∧ cap ≤ maxLen := by obtain ⟨_, _, _, e, h2, h3, _⟩ := hr6; cases e; exact ⟨h2, h3⟩
  clear hr hz
  generalize zs.take (min len 600) = zs at *
  generalize min len 600 = N at *
  have HSH := Lib.hid hsh; have HR := Lib.hid hr6; have HZL := Lib.hid hzl; have HZB := Lib.hid hzb; have HYS := Lib.hid hys
  clear hsh hr6 hzl hzb hys
  go_enter Try.func3, Try.ntmps3
  go_upto_region 4 with (first | (go_at_call 11; refine (awake_any _).mono ?_; rintro e W1 ⟨rfl, hk1⟩; have HK1 := Lib.hid hk1; clear hk1) | (go_at_call 12; refine (HSH.out _).mono ?_; rintro e W1' ⟨rfl, rfl⟩))
  go_upto_region 5 with (fail)
  obtain ⟨sb, hsb⟩ : ∃ sb, sb = W1.heap.size := ⟨_, rfl⟩
  have hp0 : PieceSt w (W1.alloc (.cells zeroSum.toArray 31)) sb (zs.take 0) := ⟨keeps_alloc HK1.out _, by rw [hsb]; exact HK1.out.size, _, by rw [hsb]; exact sumAt_zero (Row.new _ _ _ rfl), fun g e => by simp [Value.ownBlock] at e⟩
  rw [← hsb]
  clear hsb
  refine wp_gen (fun W => PieceSt w W sb (zs.take 0)) hp0 ?_
  clear hp0
  intro W0 hp0
  have HP0 := Lib.hid hp0
  clear hp0 HK1
  go_wp2
  go_loopw [6, 7] (fun c6 c7 wr => ∃ at_ i : Nat, at_ ≤ N ∧ i ≤ 700 ∧ c6 = .int .i64 at_ ∧ c7 = .int .i64 i ∧ PieceSt w wr sb (zs.take at_)) (fun _ c7 _ => (700 - intOf c7).toNat)
  case atStart => exact ⟨0, 0, by omega, by omega, rfl, rfl, HP0.out⟩
  case round =>
    obtain ⟨at_, i, hat, hi, rfl, rfl, hp⟩ := hrel
    have HP := Lib.hid hp
    clear hp HP0
    by_cases hcont : at_ < N ∧ i < 700
    · obtain ⟨hc1, hc2⟩ := hcont
      have hkey : ∀ k : Nat, ∃ m : Nat, at_ + m ≤ N ∧ min ((at_ : Int) + k) N = (at_ : Int) + m := fun k => ⟨min (at_ + k) N - at_, by omega, by omega⟩
      have hcut : 0 < len2 → ∃ g off j, b2 = some ⟨g, off, none⟩ ∧ (i : Int) % (len2 : Int) = (j : Nat) ∧ j < len2 ∧ wr.cell? ⟨g, off + j, none⟩ = some (.int .i64 (ys.getD j 0)) ∧ ∃ k : Nat, k ≤ N ∧ max 0 (min (ys.getD j 0) (N : Int)) = k := fun h0 => by
        have hj : i % len2 < len2 := Nat.mod_lt _ h0
        obtain ⟨g, off, e1, hg, hc, h1, h2⟩ := HYS.out (i % len2) hj
        exact ⟨g, off, i % len2, e1, by omega, hj, (HP.out.keeps.cell (p := ⟨g, off + i % len2, none⟩) hg).trans hc, (max 0 (min (ys.getD (i % len2) 0) (N : Int))).toNat, by omega, by omega⟩
      obtain ⟨g, off, rfl⟩ : ∃ g off, a = some ⟨g, off, none⟩ := by
        obtain ⟨a', c', e, _, _, h5⟩ := rd_form HR.out
        cases e
        obtain ⟨g, off, e2, _⟩ := h5 (by omega)
        exact ⟨g, off, e2⟩
      by_cases h0 : 0 < len2
      focus
        obtain ⟨g2, o2, j, rfl, hmod, hj, hcj, k, hk, hmm⟩ := hcut h0
        generalize ys.getD j 0 = y at *
        obtain ⟨m, hm1, hm2⟩ := hkey k
        clear hkey hcut
        go_upto_region 13 with (fail)
        clear hmod hj hcj hk hmm hm2 h0
      rotate_left
      focus
        obtain rfl : len2 = 0 := by omega
        obtain ⟨m, hm1, hm2⟩ := hkey 1
        have hm3 : min ((at_ : Int) + 1) N = (at_ : Int) + m := by omega
        clear hkey hcut hm2
        go_upto_region 13 with (fail)
        clear hm3 h0
      all_goals
        have hrs : ∀ W, Keeps w W → Rd W 1 (.slice (some ⟨g, off + at_, none⟩) m (cap - at_)) m (((zs.drop at_).take m).map (Value.int .u8)) := fun W hk => by
          have := (HR.out.keeps hk).sub (i := at_) (j := at_ + m) (by omega) hm1
          rw [map_sub] at this
          simpa using this
        have hrt : ∀ W, Keeps w W → Rd W 1 (.slice (some ⟨g, off, none⟩) (at_ + m) cap) (at_ + m) ((zs.take (at_ + m)).map (Value.int .u8)) := fun W hk => by
          have := (HR.out.keeps hk).sub (i := 0) (j := at_ + m) (by omega) hm1
          rw [map_sub] at this
          simpa using this
        have hpb : Bytes ((zs.drop at_).take m) := (HZB.out.drop at_).take m
        have hml := HZL.out
        have htk := take_more zs at_ m
        have HRS := Lib.hid hrs; have HRT := Lib.hid hrt; have HPB := Lib.hid hpb; have HTK := Lib.hid htk
        clear hrs hrt hpb htk
        generalize (zs.drop at_).take m = pz at *
        go_upto_region 14 with (go_at_call 13; refine (spare_any _ m pz _ (HRS.out _ HP.out.keeps) (by omega)).mono ?_; rintro e W2 ⟨rfl, hk2, hl2, hr2⟩; have HK2 := Lib.hid hk2; have HR2 := Lib.hid hr2; clear hk2 hr2)
        obtain ⟨q, hq⟩ : ∃ q, q = wr.heap.size := ⟨_, rfl⟩
        rw [← hq] at HR2 hl2 ⊢
        have HQ := Lib.hid hq
        clear hq
        obtain ⟨wv, hs, ho⟩ := HP.out.sum
        have HS := Lib.hid hs; have HO := Lib.hid ho
        clear hs ho
        have hpm : pz.length = m := by have := (HRS.out wr HP.out.keeps).1; simpa using this
        have hrp : Rd W2 1 (.slice (some ⟨q, 0, none⟩) m (m + 9)) m (pz.map (Value.int .u8)) := Rd.of_row (by
          have := HR2.out.take m
          rw [← List.map_take, spareL, List.take_append_of_le_length (by omega), List.take_of_length_le (by omega)] at this
          exact this) (by simp; omega) hl2 (by omega) (by unfold maxLen; omega)
        have HRP := Lib.hid hrp; have HPM := Lib.hid hpm
        clear hrp hpm
        have hlt0 : (zs.take at_).length ≤ 600 := by simp; omega
        go_upto_region 15 with (go_at_call 14; refine (sum_add sb 0 wv (zs.take at_) _ m pz _ (HS.out.keeps HK2.out) HRP.out HPB.out (by omega) (by omega) (fun _ e => by have h1 := HS.out.lt; have h2 : q = sb := Option.some.inj e; have h3 := HQ.out; omega)).mono ?_; rintro e W3 ⟨rfl, hA⟩; have HA := Lib.hid hA; clear hA)
        obtain ⟨wv', hk3, hs3, ho3, hr3, hw3, hsq⟩ := PieceSt.added HP.out.keeps HP.out.new HS.out HO.out HQ.out HK2.out hl2 HR2.out HA.out
        rw [HTK.out] at hs3
        have HK3 := Lib.hid hk3; have HS3 := Lib.hid hs3; have HO3 := Lib.hid ho3; have HR3 := Lib.hid hr3; have HW3 := Lib.hid hw3
        clear hk3 hs3 ho3 hr3 hw3 HA HS HO HR2 HRP HK2
        have HTB := Lib.hid (HZB.out.take (at_ + m))
        have hlt1 : (zs.take (at_ + m)).length ≤ 600 := by simp; omega
        have hE : ∀ W, (Op.equalIn 10000 37 (.agg ((sha256 (zs.take (at_ + m))).map (Value.int .u8)).toArray) (.agg ((sha256 (zs.take (at_ + m))).map (Value.int .u8)).toArray)).run Try.prog W = .ok true W := fun W => equal_same W _ Try.underlying37 _ (sha_bytes _) (sha_length _)
        have hHS : ∀ W, Keeps W3 W → Calls Try.prog 16 #[.pointer (some ⟨sb, 0, none⟩)] W fun e w' => e = .returned (.agg ((sha256 (zs.take (at_ + m))).map (Value.int .u8)).toArray) ∧ Keeps W w' := fun W hk => sum_hash sb 0 _ _ W (HS3.out.keeps hk) (by omega)
        have hRS : ∀ W, Keeps W3 W → Calls Try.prog 17 #[.slice (some ⟨g, off, none⟩) (at_ + m) cap] W fun e w' => e = .returned (.agg ((sha256 (zs.take (at_ + m))).map (Value.int .u8)).toArray) ∧ Keeps W w' := fun W hk => ref_sum256 _ (at_ + m) (zs.take (at_ + m)) W (HRT.out _ (HK3.out.trans hk)) HTB.out (by omega)
        have HHS := Lib.hid hHS; have HRSS := Lib.hid hRS
        clear hHS hRS
        generalize sha256 (zs.take (at_ + m)) = X at *
        by_cases h8 : i < 8
        focus
          have hd1 : decide ((i : Int) < 8) = true := by simp; omega
          have hd2 : decide (i < 8) = true := by simp; omega
          refine wp_region_quiet_below (by kernel_rfl) (by kernel_rfl) ?_
          repeat (first | go_big_quiet_step (first | (go_at_call 15; exact rgB ((kept_any _ m q _ pz _ (HRS.out _ (HK3.out.trans (below_regrown _ _ _))) (by omega) (HR3.out.keeps (below_regrown _ _ _))).mono fun _ _ h => ⟨h.1, h.2.keeps⟩)) | (go_at_call 16; exact rgB (HHS.out _ (below_regrown _ _ _))) | (go_at_call 17; exact rgB (HRSS.out _ (below_regrown _ _ _)))))
          refine wpQuiet_nil ?_
          intro _ hw'
          obtain ⟨⟨dq, osq⟩, hw''⟩ := hw'
          subst hw''
          have hkq := below_regrown W3 dq osq
        rotate_left
        focus
          have hd1 : decide ((i : Int) < 8) = false := by simp; omega
          have hd2 : decide (i < 8) = false := by simp; omega
          refine wp_region_quiet_below (by kernel_rfl) (by kernel_rfl) ?_
          repeat (first | go_big_quiet_step (first | (go_at_call 15; exact rgB ((kept_any _ m q _ pz _ (HRS.out _ (HK3.out.trans (below_regrown _ _ _))) (by omega) (HR3.out.keeps (below_regrown _ _ _))).mono fun _ _ h => ⟨h.1, h.2.keeps⟩))))
          refine wpQuiet_nil ?_
          intro _ hw'
          obtain ⟨⟨dq, osq⟩, hw''⟩ := hw'
          subst hw''
          have hkq := below_regrown W3 dq osq
        all_goals
          generalize Go.Sort.grow (redrawn W3 dq) osq = W4 at *
          have hr4 := HR3.out.keeps hkq
          have hs4 := HS3.out.keeps hkq
          have hk4 := HK3.out.trans hkq
          have HR4 := Lib.hid hr4; have HS4 := Lib.hid hs4; have HK4 := Lib.hid hk4
          clear hr4 hs4 hk4 hkq HR3 HS3 HK3
          go_wp2
          go_loopw [78] (fun c wr2 => ∃ (k : Nat) (xs : List Int), k ≤ m ∧ xs.length = m + 9 ∧ c = .int .i64 k ∧ Chg (· = q) W4 wr2 ∧ Row wr2 q 0 (xs.map (Value.int .u8))) (fun c _ => (m - intOf c).toNat)
          case atStart => exact ⟨0, _, by omega, spareL_length _ _ HPM.out, rfl, Chg.refl _ _, HR4.out⟩
          case round =>
            obtain ⟨k5, xs, hk5, hxl, rfl, hch, hrx⟩ := hrel
            by_cases hlt5 : k5 < m
            · have hcx := hrx.int0 k5 (by omega)
              have hfx := hrx.free0 k5 (by rw [List.length_map]; omega)
              have HSET := Lib.hid (fun y => hrx.setInt0 k5 (by omega) y)
              have HCH := Lib.hid hch
              clear hrx hch
              generalize xs.getD k5 0 = x at *
              go_wp2
              go_roundw
              case rel => exact ⟨k5 + 1, _, by omega, (List.length_set).trans hxl, by go_num, HCH.out.setCell (.inr rfl) _, HSET.out _⟩
              case measure => simp [intOf]; omega
            · obtain rfl : k5 = m := by omega
              have hk6 := keeps_chg HK4.out hch (by have := HQ.out; have := HP.out.keeps.size; omega)
              have hs6 := HS4.out.chg hch (fun e => hsq e) (fun g' e e2 => HW3.out (by rw [e, e2]))
              have HK6 := Lib.hid hk6; have HS6 := Lib.hid hs6
              clear hk6 hs6 hch hrx
              go_wp2
              go_roundw
              case rel => exact ⟨at_ + k5, i + 1, by omega, by omega, by go_num, by go_num, ⟨HK6.out, HP.out.new, wv', HS6.out, HO3.out⟩⟩
              case measure => simp [intOf]; omega
    · have hrt : ∀ W, Keeps w W → Rd W 1 (.slice a at_ cap) at_ ((zs.take at_).map (Value.int .u8)) := fun W hk => by
        have := (HR.out.keeps hk).head hat
        rwa [← List.map_take] at this
      have hE1 : ∀ W, (Op.equalIn 10000 37 (.agg ((sha256 (zs.take at_)).map (Value.int .u8)).toArray) (.agg ((sha256 (zs.take at_)).map (Value.int .u8)).toArray)).run Try.prog W = .ok true W := fun W => equal_same W _ Try.underlying37 _ (sha_bytes _) (sha_length _)
      have hE2 : ∀ W, (Op.equalIn 10000 37 (.agg ((sha256 (sha256 (zs.take at_))).map (Value.int .u8)).toArray) (.agg ((sha256 (sha256 (zs.take at_))).map (Value.int .u8)).toArray)).run Try.prog W = .ok true W := fun W => equal_same W _ Try.underlying37 _ (sha_bytes _) (sha_length _)
      have hlt0 : (zs.take at_).length ≤ 600 := by simp; omega
      have hal : (at_ : Int) ≤ cap := by omega
      have HTB := Lib.hid (HZB.out.take at_)
      obtain ⟨wv, hs, _⟩ := HP.out.sum
      have HRT := Lib.hid hrt; have HS := Lib.hid hs; have HK := Lib.hid HP.out.keeps
      clear hrt hs
      have hends : (at_ < N ∧ i = 700) ∨ at_ = N := by omega
      have hnone : a = none → cap = 0 ∧ N = 0 := fun e => by obtain ⟨_, _, _, e2, _, _, h4, _⟩ := HR.out; cases e2; have := h4 e; omega
      clear hcont
      have hH1 : ∀ W, Keeps wr W → Calls Try.prog 16 #[.pointer (some ⟨sb, 0, none⟩)] W fun e w' => e = .returned (.agg ((sha256 (zs.take at_)).map (Value.int .u8)).toArray) ∧ Keeps W w' := fun W hk => sum_hash sb 0 _ _ W (HS.out.keeps hk) (by omega)
      have hH2 : ∀ W, Keeps wr W → Calls Try.prog 18 #[.pointer (some ⟨sb, 0, none⟩)] W fun e w' => e = .returned (.agg ((sha256 (sha256 (zs.take at_))).map (Value.int .u8)).toArray) ∧ Keeps W w' := fun W hk => twice_any sb 0 _ _ W (HS.out.keeps hk) (by omega)
      have hH3 : ∀ W, Keeps wr W → Calls Try.prog 17 #[.slice a at_ cap] W fun e w' => e = .returned (.agg ((sha256 (zs.take at_)).map (Value.int .u8)).toArray) ∧ Keeps W w' := fun W hk => ref_sum256 _ at_ (zs.take at_) W (HRT.out _ (HK.out.trans hk)) HTB.out (by omega)
      have hH4 : ∀ W, Keeps wr W → Calls Try.prog 19 #[.slice a at_ cap] W fun e w' => e = .returned (.agg ((sha256 (sha256 (zs.take at_))).map (Value.int .u8)).toArray) ∧ Keeps W w' := fun W hk => ref_double _ at_ (zs.take at_) W (HRT.out _ (HK.out.trans hk)) HTB.out (by omega)
      have hH5 : ∀ W, Keeps wr W → Calls Try.prog 20 #[.slice a at_ cap] W fun e w' => e = .returned (.agg ((sha256 (zs.take at_)).map (Value.int .u8)).toArray) ∧ Keeps W w' := fun W hk => sum256_any _ at_ (zs.take at_) W (HRT.out _ (HK.out.trans hk)) HTB.out (by omega)
      have H1 := Lib.hid hH1; have H2 := Lib.hid hH2; have H3 := Lib.hid hH3; have H4 := Lib.hid hH4; have H5 := Lib.hid hH5
      clear hH1 hH2 hH3 hH4 hH5
      generalize sha256 (sha256 (zs.take at_)) = X2 at *
      generalize sha256 (zs.take at_) = X1 at *
      generalize zs.take at_ = L at *
      rcases a with _ | ⟨g, off, sp⟩
      focus
        obtain ⟨rfl, rfl⟩ := hnone rfl
        obtain rfl : at_ = 0 := by omega
        go_upto_region 23 with (fail)
      rotate_left
      focus
        rcases hends with ⟨hA, rfl⟩ | rfl
        all_goals go_upto_region 23 with (fail)
      all_goals
        refine wp_region_quiet_below (by kernel_rfl) (by kernel_rfl) ?_
        repeat (first | (refine BigFrame.wpQuiet_want (by kernel_rfl) (fun K hK => quiet_eql_same _ _ _ _ rfl _ rfl rfl (by first | exact hE1 | exact hE2) (by kernel_rfl) (hK _ ?_)); simp only [Act.put, List.setIfInBounds_toArray, List.set_cons_zero, List.set_cons_succ]) | go_big_quiet_step (first | (go_at_call 16; exact rgB (H1.out _ (below_regrown _ _ _))) | (go_at_call 18; exact rgB (H2.out _ (below_regrown _ _ _))) | (go_at_call 17; exact rgB (H3.out _ (below_regrown _ _ _))) | (go_at_call 19; exact rgB (H4.out _ (below_regrown _ _ _))) | (go_at_call 20; exact rgB (H5.out _ (below_regrown _ _ _)))))
        refine wpQuiet_nil ?_
        intro _ hw'
        obtain ⟨⟨dq, osq⟩, hw''⟩ := hw'
        subst hw''
        have hkq := below_regrown wr dq osq
        go_wp2
        go_ret
        exact ⟨rfl, HK.out.trans hkq⟩
end Go.Proofs.Ytgdbaejcbfofoaa
