/- hash.Sum's Add: what has come so far, and more: the state is that of all whole blocks, what waits is the rest. -/
import Derived.Test.YtlofddoojkeakaaDoorGA3
import Derived.Deep.Cut
import Derived.Deep.LoopGhost
namespace Go.Proofs.YtlofddoojkeakaaDoor
set_option linter.unusedVariables false
set_option linter.unusedSimpArgs false
open Go Go.RowKit

theorem Rd.chg' {S : Nat → Prop} {w w' : World} {size : Nat} {v : Value} {n : Nat} {xs : List Value} (h : Rd w size v n xs) (hc : Chg S w w') (hs : 0 < n → ∀ g, v.ownBlock = some g → ¬ S g) : Rd w' size v n xs := by
  obtain ⟨h0, a, cap, rfl, h2, h3, h4, h5⟩ := h
  refine ⟨h0, a, cap, rfl, h2, h3, h4, fun ad e hn => ?_⟩
  obtain ⟨g, off, e2, hg, hr⟩ := h5 ad e hn
  subst e e2
  exact ⟨g, off, rfl, Nat.lt_of_lt_of_le hg hc.size, hr.chg hc (hs hn g rfl)⟩
theorem Rd.own_lt {w : World} {size : Nat} {v : Value} {n : Nat} {xs : List Value} (h : Rd w size v n xs) (hn : 0 < n) : ∀ g, v.ownBlock = some g → g < w.heap.size := by
  obtain ⟨h0, a, cap, rfl, h2, h3, h4, h5⟩ := h
  intro g hg
  cases a with
  | none => have := (h4 rfl).1; omega
  | some ad =>
    obtain ⟨g', off, e2, hg', _⟩ := h5 ad rfl hn
    subst e2
    have e3 : g' = g := Option.some.inj hg
    omega
/-- a Sum at a place, to which these bytes have come; wv: what waits -/
structure SumAt (w : World) (b o : Nat) (wv : Value) (l : List Int) : Prop where
  bytes : Bytes l
  small : l.length < 1152921504606846976
  st : ∃ (st : St) (bg : Bool), st.ok ∧ (bg = true ∧ st = run256 iv256 l (l.length / 64) ∨ bg = false ∧ l = []) ∧ Row w b o (st.list.map (Value.int .u32) ++ [wv, .int .u64 l.length, .bool bg])
  buf : Buf w 1 wv (l.length % 64) ((l.drop (64 * (l.length / 64))).map (Value.int .u8))
  apart : wv.ownBlock ≠ some b
def AddPost (w w' : World) (b o : Nat) (wv : Value) (l : List Int) : Prop :=
  ∃ wv', SumAt w' b o wv' l ∧ Chg (fun k => k = b ∨ wv.ownBlock = some k) w w' ∧ ∀ g, wv'.ownBlock = some g → wv.ownBlock = some g ∨ w.heap.size ≤ g
theorem sz_st8 : (Tryd.prog.info? 116).map (·.size) = some 8 := sz_state
theorem St.list_ok {s : St} : ∀ v ∈ s.list.map (Value.int .u32), v.oneCell' = true := int_oneCell _

/-- what holds once the Sum has begun -/
structure Begun (W0 W : World) (b o : Nat) (wv : Value) (l : List Int) (a : Option Addr) (m cap : Nat) (zs : List Int) : Prop where
  chg : Chg (fun k => k = b ∨ wv.ownBlock = some k) W0 W
  row : Row W b o ((run256 iv256 l (l.length / 64)).list.map (Value.int .u32) ++ [wv, .int .u64 l.length, .bool true])
  buf : Buf W 1 wv (l.length % 64) ((l.drop (64 * (l.length / 64))).map (Value.int .u8))
  rd : Rd W 1 (.slice a m cap) m (zs.map (Value.int .u8))

structure Mid (W0 W : World) (b o : Nat) (wv : Value) (wn : Nat) (ws : List Int) (s : St) (N : Int) (v : Value) (m : Nat) (zs : List Int) : Prop where
  chg : Chg (fun k => k = b ∨ wv.ownBlock = some k) W0 W
  row : Row W b o (s.list.map (Value.int .u32) ++ [wv, .int .u64 N, .bool true])
  buf : Buf W 1 wv wn (ws.map (Value.int .u8))
  rd : Rd W 1 v m (zs.map (Value.int .u8))
structure Aft (W0 W : World) (b o : Nat) (wb : Option Nat) (v : Value) (n : Nat) (L : List Int) (s : St) (N : Int) : Prop where
  chg : Chg (fun k => k = b ∨ wb = some k) W0 W
  row : Row W b o (s.list.map (Value.int .u32) ++ [v, .int .u64 N, .bool true])
  buf : Buf W 1 v n (L.map (Value.int .u8))
  ne : v.ownBlock ≠ some b
  old : ∀ g, v.ownBlock = some g → wb = some g ∨ W0.heap.size ≤ g
/-- the loop: i blocks have been taken -/
structure Lp (W0 W : World) (b o bk : Nat) (wb : Option Nat) (L : List Int) (s : St) (N : Int) (i : Nat) (a : Option Addr) (n c : Nat) : Prop where
  chg : Chg (fun k => k = b ∨ wb = some k) W0 W
  row : Row W b o ((run256 s L i).list.map (Value.int .u32) ++ [.slice a n c, .int .u64 N, .bool true])
  buf : Buf W 1 (.slice a n c) n ((L.drop (64 * i)).map (Value.int .u8))
  ne : (Value.slice a n c).ownBlock ≠ some b
  nek : (Value.slice a n c).ownBlock ≠ some bk
  old : ∀ g, (Value.slice a n c).ownBlock = some g → wb = some g ∨ W0.heap.size ≤ g
  key : Row W bk 0 (k256.map (Value.int .u32))
  new : W0.heap.size ≤ bk
  nb : bk ≠ b
  len : n + 64 * i = L.length
  cap : n ≤ c ∧ c ≤ maxLen
theorem Lp.next {W0 W w4 : World} {b o bk : Nat} {wb : Option Nat} {L : List Int} {s : St} {N : Int} {i : Nat} {a : Option Addr} {n c : Nat} (h : Lp W0 W b o bk wb L s N i a n c)
    (hst : Row w4 b o ((run256 s L (i + 1)).list.map (Value.int .u32) ++ [.slice a n c, .int .u64 N, .bool true])) (hc4 : Chg (· = b) W w4) (a' : Option Addr) (n' c' : Nat)
    (hbuf : Buf W 1 (.slice a' n' c') n' ((L.drop (64 * (i + 1))).map (Value.int .u8))) (hob : (Value.slice a' n' c').ownBlock = (Value.slice a n c).ownBlock) (hn : n' + 64 = n) (hcap : n' ≤ c' ∧ c' ≤ maxLen) :
    Lp W0 (w4.setCell ⟨b, o + 8, none⟩ (.slice a' n' c')) b o bk wb L s N (i + 1) a' n' c' := by
  have hc : Chg (· = b) W (w4.setCell ⟨b, o + 8, none⟩ (.slice a' n' c')) := hc4.setCell (p := ⟨b, o + 8, none⟩) (.inr rfl) _
  have hne : (Value.slice a' n' c').ownBlock ≠ some b := by rw [hob]; exact h.ne
  exact ⟨h.chg.trans (hc.mono (fun k _ e => .inl e)), hst.set 8 (by simp [St.list]) _, hbuf.chg hc (fun g hg e => hne (by rw [hg, e])), hne, by rw [hob]; exact h.nek, fun g hg => h.old g (by rw [← hob]; exact hg),
    h.key.chg hc h.nb, h.new, h.nb, by have := h.len; omega, hcap⟩
set_option maxHeartbeats 800000 in
set_option maxRecDepth 100000 in
theorem sum_add_more (b o : Nat) (wa : Option Addr) (wn wc : Nat) (l : List Int) (a : Option Addr) (m cap : Nat) (zs : List Int) (w : World) (st : St) (hst : st = run256 iv256 l (l.length / 64))
    (hby : Bytes l) (hlen : l.length < 1152921504606846976) (hrow : Row w b o (st.list.map (Value.int .u32) ++ [.slice wa wn wc, .int .u64 l.length, .bool true]))
    (hbuf : Buf w 1 (.slice wa wn wc) (l.length % 64) ((l.drop (64 * (l.length / 64))).map (Value.int .u8))) (hap : (Value.slice wa wn wc).ownBlock ≠ some b)
    (hr : Rd w 1 (.slice a m cap) m (zs.map (Value.int .u8)))
    (hz : Bytes zs) (hm : m ≤ 70368744177664) (hsm : l.length + m < 1152921504606846976) (hne : 0 < m → (Value.slice a m cap).ownBlock ≠ some b) :
    Calls Tryd.prog 58 #[.pointer (some ⟨b, o, none⟩), .slice a m cap] w fun e w' => e = .returned (.tuple #[]) ∧ AddPost w w' b o (.slice wa wn wc) (l ++ zs) := by
  have hzl : zs.length = m := by simpa using hr.1
  subst hst
  have c10 := (hrow 10 _ rfl).1
  have HB0 : Hid (Begun w w b o (.slice wa wn wc) l a m cap zs) := Lib.hid ⟨Chg.refl _ _, hrow, hbuf, hr⟩
  have HBY := Lib.hid hby; have HZ := Lib.hid hz; have HZL := Lib.hid hzl; have HAP := Lib.hid hap; have HNE := Lib.hid hne
  clear hby hz hzl hrow hbuf hr hap hne
  go_enter Tryd.func58, Tryd.ntmps58
  go_upto_region 2 with (fail)
  refine wp_gen (fun W => Begun w W b o (.slice wa wn wc) l a m cap zs) HB0.out (fun W hW => ?_)
  clear HB0 c10
  obtain ⟨hch, hrow, hbuf, hrd⟩ := hW
  have c8 := (hrow 8 _ rfl).1
  have c9 := (hrow 9 _ rfl).1
  have f8 := (hrow 8 _ rfl).2
  have f9 := (hrow 9 _ rfl).2
  have hwn : wn = l.length % 64 := by
    rcases hbuf.2 with ⟨h, h0⟩ | ⟨g, off, cp, sp, h, _⟩
    · cases h; exact h0.symm
    · cases h; rfl
  have hwn64 : wn < 64 := by omega
  rw [← hwn] at hbuf
  have HROW := Lib.hid hrow; have HBUF := Lib.hid hbuf; have HRD := Lib.hid hrd; have HCH := Lib.hid hch; have HWN := Lib.hid hwn
  clear hrow hbuf hrd hch hwn
  obtain ⟨i0, hi, hz0, hz1, hz2⟩ := info_parts u8_info
  go_upto_region 3 with (fail)
  have hb' : b < W.heap.size := by have := block_lt_of_cell c8; exact this
  refine wp_gen (fun W1 => Mid w W1 b o (.slice wa wn wc) wn (l.drop (64 * (l.length / 64))) (run256 iv256 l (l.length / 64)) ((l.length : Int) + (m : Int)) (.slice a m cap) m zs) ⟨HCH.out.setCell (.inr (.inl rfl)) _, HROW.out.set 9 (by simp [St.list]) _,
    HBUF.out.chg ((Chg.refl (· = b) W).setCell (p := ⟨b, o + 9, none⟩) (.inr rfl) _) (fun g hg e => HAP.out (by rw [hg, e])), HRD.out.chg' ((Chg.refl (· = b) W).setCell (p := ⟨b, o + 9, none⟩) (.inr rfl) _) (fun h0 g hg e => HNE.out h0 (by rw [hg, e]))⟩ (fun W1 hW1 => ?_)
  clear c8 c9 f8 f9 HROW HBUF HRD HCH hb'
  obtain ⟨hch, hrow, hbuf, hrd⟩ := hW1
  have c8 := (hrow 8 _ rfl).1
  have f8 := (hrow 8 _ rfl).2
  have HROW := Lib.hid hrow; have HBUF := Lib.hid hbuf; have HRD := Lib.hid hrd; have HCH := Lib.hid hch
  clear hrow hbuf hrd hch
  go_upto_region 4 with (at_builtin; refine wpList_append_buf rfl (.tmp 31) (.tmp 32) 38 38 rfl 5 i0 (.int .u8 0) 1 1 Tryd.underlying38 hi hz0 hz1 hz2 rfl (by decide) _ wn _ rfl HBUF.out _ rfl m _ (HRD.out.src Tryd.underlying38 (int_oneCell zs)) (by unfold maxLen; omega) (by omega) ?_; intro v3 W3 hb3 hc3 hs3 hnn; clear hnn; rw [← List.map_append] at hb3; obtain ⟨a3, cap3, rfl, hcap3, hmx3, hn3, had3⟩ := hb3.any; clear had3 hn3; have hc3' : Chg (fun k => (Value.slice wa wn wc).ownBlock = some k) W1 W3 := hc3; have hs3' : SameOrNew W1 (Value.slice wa wn wc) (Value.slice a3 (wn + m) cap3) := hs3; have q8 := (HROW.out.chg hc3' (fun e => HAP.out e)) 8 _ rfl; have g8 := q8.1; have k8 := q8.2; clear q8; have HB3 := Lib.hid hb3; have HC3 := Lib.hid hc3'; have HS3 := Lib.hid hs3'; clear hb3 hc3 hs3 hc3' hs3')
  have hL : (l.drop (64 * (l.length / 64)) ++ zs).length = wn + m := by rw [List.length_append, List.length_drop, HZL.out, HWN.out]; omega
  have hb1 : b < W1.heap.size := block_lt_of_cell c8
  have hne3 : (Value.slice a3 (wn + m) cap3).ownBlock ≠ some b := by
    rcases HS3.out with h | ⟨g, h, hg⟩
    · rw [h]; exact HAP.out
    · rw [h]; intro e; cases e; omega
  have hold3 : ∀ g, (Value.slice a3 (wn + m) cap3).ownBlock = some g → (Value.slice wa wn wc).ownBlock = some g ∨ w.heap.size ≤ g := by
    intro g hg
    rcases HS3.out with h | ⟨g', h, hg'⟩
    · exact .inl (by rw [← h, hg])
    · rw [hg] at h; cases h; exact .inr (Nat.le_trans HCH.out.size hg')
  refine wp_gen (fun W4 => Aft w W4 b o (Value.slice wa wn wc).ownBlock (.slice a3 (wn + m) cap3) (wn + m) (l.drop (64 * (l.length / 64)) ++ zs) (run256 iv256 l (l.length / 64)) ((l.length : Int) + (m : Int)))
    ⟨(HCH.out.trans (HC3.out.mono (fun k _ h => .inr h))).setCell (.inr (.inl rfl)) _, (HROW.out.chg HC3.out (fun e => HAP.out e)).set 8 (by simp [St.list]) _, HB3.out.chg ((Chg.refl (· = b) W3).setCell (p := ⟨b, o + 8, none⟩) (.inr rfl) _) (fun g hg e => hne3 (by rw [hg, e])), hne3, hold3⟩ (fun W4 hW4 => ?_)
  clear c8 f8 g8 k8 HROW HBUF HRD HCH HB3 HC3 HS3 hne3 hold3
  obtain ⟨hch, hrow, hbuf, hne4, hold4⟩ := hW4
  have HROW := Lib.hid hrow; have HBUF := Lib.hid hbuf; have HCH := Lib.hid hch; have HNE4 := Lib.hid hne4; have HOLD4 := Lib.hid hold4; have HLL := Lib.hid hL
  clear hrow hbuf hch hne4 hold4 hL
  go_wp2_with (first | (go_at_call 82; refine (k256_any _).mono ?_; rintro e W5 ⟨rfl, hk5⟩; have HK5 := Lib.hid hk5; clear hk5) | (refine wpList_store_row rfl 149 (.tmp 4) (.tmp 36) rfl W5.heap.size 0 rfl (List.replicate 64 (Value.int .u32 0)) (k256.map (Value.int .u32)) rfl (Row.new _ _ _ rfl) (by kernel_rfl) (by kernel_rfl) (int_oneCell _) ?_; intro W6 hr6 hc6; have HR6 := Lib.hid hr6; have HC6 := Lib.hid hc6; clear hr6 hc6))
  have K46 : Keeps W4 W6 := Chg.keeps (((HK5.out.chg (· = W5.heap.size)).alloc _).trans HC6.out) (fun k hk e => by have := HK5.out.size; omega)
  have hsz5 := HK5.out.size
  have hb4 : b < W4.heap.size := HROW.out.lt (by simp [St.list])
  have h0 : Lp w W6 b o W5.heap.size (Value.slice wa wn wc).ownBlock (l.drop (64 * (l.length / 64)) ++ zs) (run256 iv256 l (l.length / 64)) ((l.length : Int) + (m : Int)) 0 a3 (wn + m) cap3 :=
    ⟨HCH.out.trans (K46.chg _), HROW.out.keeps K46, HBUF.out.keeps K46, HNE4.out, fun e => by have := HBUF.out.lt e; omega, HOLD4.out, HR6.out, Nat.le_trans HCH.out.size hsz5, by omega, by rw [HLL.out]; rfl, hcap3, hmx3⟩
  have H0 := Lib.hid h0; clear h0 K46
  generalize hwb : (Value.slice wa wn wc).ownBlock = wb at *
  have hfin : run256 (run256 iv256 l (l.length / 64)) (l.drop (64 * (l.length / 64)) ++ zs) ((wn + m) / 64) = run256 iv256 (l ++ zs) ((l ++ zs).length / 64) := by
    rw [run256_more]; congr 1; rw [List.length_append, HZL.out]; have := HWN.out; omega
  have hdr : (l.drop (64 * (l.length / 64)) ++ zs).drop (64 * ((wn + m) / 64)) = (l ++ zs).drop (64 * ((l ++ zs).length / 64)) := by
    have e1 : (l ++ zs).length / 64 = l.length / 64 + (wn + m) / 64 := by rw [List.length_append, HZL.out]; have := HWN.out; omega
    have e2 : (l ++ zs).drop (64 * (l.length / 64)) = l.drop (64 * (l.length / 64)) ++ zs := List.drop_append_of_le_length (by omega)
    rw [e1, Nat.mul_add, ← List.drop_drop, e2]
  have hbl : Bytes (l.drop (64 * (l.length / 64)) ++ zs) := fun x hx => by
    rcases List.mem_append.1 hx with h | h
    · exact HBY.out x (List.mem_of_mem_drop h)
    · exact HZ.out x h
  have HFIN := Lib.hid hfin; have HDR := Lib.hid hdr; have HBL := Lib.hid hbl; have HWB := Lib.hid hwb; clear hfin hdr hbl hwb
  have hok0 := run256_ok iv256_ok l (l.length / 64)
  generalize l.drop (64 * (l.length / 64)) ++ zs = L at *
  generalize run256 iv256 l (l.length / 64) = s0 at *
  have HOK0 := Lib.hid hok0; clear hok0
  clear HBUF HROW HNE4 HOLD4 HK5 HR6 HC6 hsz5 hb4
  go_frame
  go_loopg [43] ((wn + m) / 64) (fun gk s43 wr => ∃ (i : Nat) (a : Option Addr) (n c : Nat), i + gk = (wn + m) / 64 ∧ Lp w wr b o W5.heap.size wb L s0 ((l.length : Int) + (m : Int)) i a n c)
  case atStart => exact ⟨0, a3, wn + m, cap3, by omega, H0.out⟩
  case round =>
    obtain ⟨i, aa, n, c, hig, hlp⟩ := hrel
    have HLP := Lib.hid hlp
    obtain ⟨l1, l2, l3, l4, l5, l6, l7, l8, l9, l10, l11⟩ := hlp
    have hll := HLL.out
    have c8 := (l2 8 _ rfl).1
    have f8 := (l2 8 _ rfl).2
    by_cases h64 : 64 ≤ n
    · obtain ⟨g, off, cc, he, _, _, hg, hrg⟩ := l3.form (.inr (by omega))
      obtain ⟨rfl, rfl⟩ : aa = some ⟨g, off, none⟩ ∧ c = cc := by cases he; exact ⟨rfl, rfl⟩
      clear he
      have hx : Row wr g off (((L.drop (64 * i)).take 64).map (Value.int .u8)) := by rw [List.map_take]; exact hrg.take 64
      have hxl : ((L.drop (64 * i)).take 64).length = 64 := by simp; omega
      have hxb : Bytes ((L.drop (64 * i)).take 64) := fun x hx => HBL.out x (List.mem_of_mem_drop (List.mem_of_mem_take hx))
      have hstep := fun nq => step_any (run256 s0 L i) (run256_ok HOK0.out L i) _ hxl hxb b o W5.heap.size g off c (wr.drewN nq) ((l2.take 8).drewN nq) (l7.drewN nq) (hx.drewN nq)
      have HST := Lib.hid hstep; have L1 := Lib.hid l1; have L2 := Lib.hid l2; have L3 := Lib.hid l3; have L4 := Lib.hid l4; have L5 := Lib.hid l5; have L6 := Lib.hid l6; have L7 := Lib.hid l7; have L10 := Lib.hid l10; have HLL2 := Lib.hid hll
      clear hstep l1 l2 l3 l4 l5 l6 l7 l10 hll hx hxl hxb hrg
      obtain ⟨l11a, l11b⟩ := l11
      by_cases hc : c = 64
      · obtain rfl : n = 64 := by omega
        subst hc
        go_wp2
        refine wp_region_quiet_tail 8 (by kernel_rfl) (by kernel_rfl) ?_
        simp only [List.take_succ_cons, List.take_zero, List.drop_succ_cons, List.drop_zero]
        repeat (first | go_big_quiet_step (fail) | quiet_step (fail))
        refine wpQuiet_nil ?_
        intro _ hw'
        obtain ⟨nq, hw''⟩ := hw'
        subst hw''
        go_wp2_with (go_at_call 83; refine (HST.out _).mono ?_; rintro e w4 ⟨rfl, hc4, hr4, hb4⟩; have q4 := L2.out.patch (w := wr) 0 hr4 (Beside.trans (b := wr.drewN nq) (Beside.of_block rfl _ _) hb4) (by simp [St.list]); have d8 := (q4 8 _ rfl).1; have d8f := (q4 8 _ rfl).2; have Q4 := Lib.hid q4; have HC4 := Lib.hid hc4; clear q4 hc4 hr4 hb4)
        go_roundg (gk - 1)
        case measure => have e1 := L10.out; have e2 := HLL2.out; omega
        case rel =>
          have e1 := L10.out
          have e2 := HLL2.out
          have hbf := L3.out.tail_all
          simp only [← List.map_drop, List.drop_drop, show 64 * i + 64 = 64 * (i + 1) by omega] at hbf
          exact ⟨i + 1, _, _, _, by omega, HLP.out.next Q4.out ((Chg.drewN (Chg.refl _ wr) nq).trans HC4.out) _ _ _ hbf rfl (by omega) ⟨Nat.le_refl _, Nat.zero_le _⟩⟩
      · have hc' : 64 < c := by omega
        clear hc
        go_wp2
        refine wp_region_quiet_tail 8 (by kernel_rfl) (by kernel_rfl) ?_
        simp only [List.take_succ_cons, List.take_zero, List.drop_succ_cons, List.drop_zero]
        repeat (first | go_big_quiet_step (fail) | quiet_step (fail))
        refine wpQuiet_nil ?_
        intro _ hw'
        obtain ⟨nq, hw''⟩ := hw'
        subst hw''
        go_wp2_with (go_at_call 83; refine (HST.out _).mono ?_; rintro e w4 ⟨rfl, hc4, hr4, hb4⟩; have q4 := L2.out.patch (w := wr) 0 hr4 (Beside.trans (b := wr.drewN nq) (Beside.of_block rfl _ _) hb4) (by simp [St.list]); have d8 := (q4 8 _ rfl).1; have d8f := (q4 8 _ rfl).2; have Q4 := Lib.hid q4; have HC4 := Lib.hid hc4; clear q4 hc4 hr4 hb4)
        go_roundg (gk - 1)
        case measure => have e1 := L10.out; have e2 := HLL2.out; omega
        case rel =>
          have e1 := L10.out
          have e2 := HLL2.out
          have hbf := L3.out.tail (k := 64) h64
          simp only [← List.map_drop, List.drop_drop, show 64 * i + 64 = 64 * (i + 1) by omega] at hbf
          exact ⟨i + 1, _, _, _, by omega, HLP.out.next Q4.out ((Chg.drewN (Chg.refl _ wr) nq).trans HC4.out) _ _ _ hbf rfl (by omega) ⟨by omega, by omega⟩⟩
    · have hgk : gk = 0 := by omega
      subst hgk
      have HLEN := Lib.hid l10; have L1 := Lib.hid l1; have L2 := Lib.hid l2; have L3 := Lib.hid l3; have L4 := Lib.hid l4; have L6 := Lib.hid l6; have HLL2 := Lib.hid hll; have HIG := Lib.hid hig
      clear l1 l2 l3 l4 l5 l6 l7 l10 hll hig
      go_wp2
      go_end0
      have e0 := HIG.out
      have e1 := HLEN.out
      have e2 := HLL2.out
      have e4 := HZL.out
      have e5 := HWN.out
      have hi1 : i = (wn + m) / 64 := by omega
      subst hi1
      have hN : ((l ++ zs).length : Int) = (l.length : Int) + (m : Int) := by rw [List.length_append, e4]; omega
      have hnn : n = (l ++ zs).length % 64 := by rw [List.length_append, e4]; omega
      refine ⟨rfl, _, ⟨?_, by rw [List.length_append, e4]; exact hsm, ⟨_, true, run256_ok iv256_ok _ _, .inl ⟨rfl, rfl⟩, ?_⟩, ?_, L4.out⟩, ?_, ?_⟩
      · intro x hx
        rcases List.mem_append.1 hx with h | h
        · exact HBY.out x h
        · exact HZ.out x h
      · rw [hN, ← HFIN.out]; exact L2.out
      · rw [← hnn, ← HDR.out]; exact L3.out
      · rw [HWB.out]; exact L1.out
      · rw [HWB.out]; exact L6.out
set_option maxHeartbeats 800000 in
set_option maxRecDepth 100000 in
theorem sum_add_new (b o : Nat) (wa : Option Addr) (wn wc : Nat) (l : List Int) (a : Option Addr) (m cap : Nat) (zs : List Int) (w : World) (st : St) (hl0 : l = [])
    (hby : Bytes l) (hlen : l.length < 1152921504606846976) (hrow : Row w b o (st.list.map (Value.int .u32) ++ [.slice wa wn wc, .int .u64 l.length, .bool false]))
    (hbuf : Buf w 1 (.slice wa wn wc) (l.length % 64) ((l.drop (64 * (l.length / 64))).map (Value.int .u8))) (hap : (Value.slice wa wn wc).ownBlock ≠ some b)
    (hr : Rd w 1 (.slice a m cap) m (zs.map (Value.int .u8)))
    (hz : Bytes zs) (hm : m ≤ 70368744177664) (hsm : l.length + m < 1152921504606846976) (hne : 0 < m → (Value.slice a m cap).ownBlock ≠ some b) :
    Calls Tryd.prog 58 #[.pointer (some ⟨b, o, none⟩), .slice a m cap] w fun e w' => e = .returned (.tuple #[]) ∧ AddPost w w' b o (.slice wa wn wc) (l ++ zs) := by
  have hzl : zs.length = m := by simpa using hr.1
  have c10 := (hrow 10 _ rfl).1
  have HBY := Lib.hid hby; have HZ := Lib.hid hz; have HZL := Lib.hid hzl; have HAP := Lib.hid hap; have HNE := Lib.hid hne; have HL0 := Lib.hid hl0
  have HRW := Lib.hid hrow; have HBF := Lib.hid hbuf; have HRR := Lib.hid hr
  clear hby hz hzl hrow hbuf hr hap hne hl0
  go_enter Tryd.func58, Tryd.ntmps58
  go_upto_region 2 with (first | (go_at_call 81; refine (begin_any _).mono ?_; rintro e W5 ⟨rfl, hk5⟩; have HK5 := Lib.hid hk5; clear hk5) | (refine wpList_store_into rfl 116 (.tmp 14) (.tmp 12) rfl b o 0 rfl _ (iv256.list.map (Value.int .u32)) rfl (HRW.out.keeps HK5.out) (by simp [St.list]) (by kernel_rfl) (int_oneCell _) ?_; intro W6 hr6 hc6; have d10 := (hr6 10 _ rfl).1; have d10f := (hr6 10 _ rfl).2; have HR6 := Lib.hid hr6; have HC6 := Lib.hid hc6; clear hr6 hc6))
  have hc56 : Chg (· = b) w (W6.setCell ⟨b, o + 10, none⟩ (.bool true)) := ((HK5.out.chg _).trans HC6.out).setCell (p := ⟨b, o + 10, none⟩) (.inr rfl) _
  refine wp_gen (fun W => Begun w W b o (.slice wa wn wc) l a m cap zs)
    ⟨hc56.mono (fun k _ e => .inl e), by have e0 : run256 iv256 l (l.length / 64) = iv256 := by rw [HL0.out]; rfl
                                         rw [e0]; exact HR6.out.set 10 (by simp [St.list]) _, HBF.out.chg hc56 (fun g hg e => HAP.out (by rw [hg, e])), HRR.out.chg' hc56 (fun h0 g hg e => HNE.out h0 (by rw [hg, e]))⟩ (fun W hW => ?_)
  clear c10 d10 d10f HK5 HC6 HR6 hc56 HRW HBF HRR
  obtain ⟨hch, hrow, hbuf, hrd⟩ := hW
  have c8 := (hrow 8 _ rfl).1
  have c9 := (hrow 9 _ rfl).1
  have f8 := (hrow 8 _ rfl).2
  have f9 := (hrow 9 _ rfl).2
  have hwn : wn = l.length % 64 := by
    rcases hbuf.2 with ⟨h, h0⟩ | ⟨g, off, cp, sp, h, _⟩
    · cases h; exact h0.symm
    · cases h; rfl
  have hwn64 : wn < 64 := by omega
  rw [← hwn] at hbuf
  have HROW := Lib.hid hrow; have HBUF := Lib.hid hbuf; have HRD := Lib.hid hrd; have HCH := Lib.hid hch; have HWN := Lib.hid hwn
  clear hrow hbuf hrd hch hwn
  obtain ⟨i0, hi, hz0, hz1, hz2⟩ := info_parts u8_info
  go_upto_region 3 with (fail)
  have hb' : b < W.heap.size := by have := block_lt_of_cell c8; exact this
  refine wp_gen (fun W1 => Mid w W1 b o (.slice wa wn wc) wn (l.drop (64 * (l.length / 64))) (run256 iv256 l (l.length / 64)) ((l.length : Int) + (m : Int)) (.slice a m cap) m zs) ⟨HCH.out.setCell (.inr (.inl rfl)) _, HROW.out.set 9 (by simp [St.list]) _,
    HBUF.out.chg ((Chg.refl (· = b) W).setCell (p := ⟨b, o + 9, none⟩) (.inr rfl) _) (fun g hg e => HAP.out (by rw [hg, e])), HRD.out.chg' ((Chg.refl (· = b) W).setCell (p := ⟨b, o + 9, none⟩) (.inr rfl) _) (fun h0 g hg e => HNE.out h0 (by rw [hg, e]))⟩ (fun W1 hW1 => ?_)
  clear c8 c9 f8 f9 HROW HBUF HRD HCH hb'
  obtain ⟨hch, hrow, hbuf, hrd⟩ := hW1
  have c8 := (hrow 8 _ rfl).1
  have f8 := (hrow 8 _ rfl).2
  have HROW := Lib.hid hrow; have HBUF := Lib.hid hbuf; have HRD := Lib.hid hrd; have HCH := Lib.hid hch
  clear hrow hbuf hrd hch
  go_upto_region 4 with (at_builtin; refine wpList_append_buf rfl (.tmp 31) (.tmp 32) 38 38 rfl 5 i0 (.int .u8 0) 1 1 Tryd.underlying38 hi hz0 hz1 hz2 rfl (by decide) _ wn _ rfl HBUF.out _ rfl m _ (HRD.out.src Tryd.underlying38 (int_oneCell zs)) (by unfold maxLen; omega) (by omega) ?_; intro v3 W3 hb3 hc3 hs3 hnn; clear hnn; rw [← List.map_append] at hb3; obtain ⟨a3, cap3, rfl, hcap3, hmx3, hn3, had3⟩ := hb3.any; clear had3 hn3; have hc3' : Chg (fun k => (Value.slice wa wn wc).ownBlock = some k) W1 W3 := hc3; have hs3' : SameOrNew W1 (Value.slice wa wn wc) (Value.slice a3 (wn + m) cap3) := hs3; have q8 := (HROW.out.chg hc3' (fun e => HAP.out e)) 8 _ rfl; have g8 := q8.1; have k8 := q8.2; clear q8; have HB3 := Lib.hid hb3; have HC3 := Lib.hid hc3'; have HS3 := Lib.hid hs3'; clear hb3 hc3 hs3 hc3' hs3')
  have hL : (l.drop (64 * (l.length / 64)) ++ zs).length = wn + m := by rw [List.length_append, List.length_drop, HZL.out, HWN.out]; omega
  have hb1 : b < W1.heap.size := block_lt_of_cell c8
  have hne3 : (Value.slice a3 (wn + m) cap3).ownBlock ≠ some b := by
    rcases HS3.out with h | ⟨g, h, hg⟩
    · rw [h]; exact HAP.out
    · rw [h]; intro e; cases e; omega
  have hold3 : ∀ g, (Value.slice a3 (wn + m) cap3).ownBlock = some g → (Value.slice wa wn wc).ownBlock = some g ∨ w.heap.size ≤ g := by
    intro g hg
    rcases HS3.out with h | ⟨g', h, hg'⟩
    · exact .inl (by rw [← h, hg])
    · rw [hg] at h; cases h; exact .inr (Nat.le_trans HCH.out.size hg')
  refine wp_gen (fun W4 => Aft w W4 b o (Value.slice wa wn wc).ownBlock (.slice a3 (wn + m) cap3) (wn + m) (l.drop (64 * (l.length / 64)) ++ zs) (run256 iv256 l (l.length / 64)) ((l.length : Int) + (m : Int)))
    ⟨(HCH.out.trans (HC3.out.mono (fun k _ h => .inr h))).setCell (.inr (.inl rfl)) _, (HROW.out.chg HC3.out (fun e => HAP.out e)).set 8 (by simp [St.list]) _, HB3.out.chg ((Chg.refl (· = b) W3).setCell (p := ⟨b, o + 8, none⟩) (.inr rfl) _) (fun g hg e => hne3 (by rw [hg, e])), hne3, hold3⟩ (fun W4 hW4 => ?_)
  clear c8 f8 g8 k8 HROW HBUF HRD HCH HB3 HC3 HS3 hne3 hold3
  obtain ⟨hch, hrow, hbuf, hne4, hold4⟩ := hW4
  have HROW := Lib.hid hrow; have HBUF := Lib.hid hbuf; have HCH := Lib.hid hch; have HNE4 := Lib.hid hne4; have HOLD4 := Lib.hid hold4; have HLL := Lib.hid hL
  clear hrow hbuf hch hne4 hold4 hL
  go_wp2_with (first | (go_at_call 82; refine (k256_any _).mono ?_; rintro e W5 ⟨rfl, hk5⟩; have HK5 := Lib.hid hk5; clear hk5) | (refine wpList_store_row rfl 149 (.tmp 4) (.tmp 36) rfl W5.heap.size 0 rfl (List.replicate 64 (Value.int .u32 0)) (k256.map (Value.int .u32)) rfl (Row.new _ _ _ rfl) (by kernel_rfl) (by kernel_rfl) (int_oneCell _) ?_; intro W6 hr6 hc6; have HR6 := Lib.hid hr6; have HC6 := Lib.hid hc6; clear hr6 hc6))
  have K46 : Keeps W4 W6 := Chg.keeps (((HK5.out.chg (· = W5.heap.size)).alloc _).trans HC6.out) (fun k hk e => by have := HK5.out.size; omega)
  have hsz5 := HK5.out.size
  have hb4 : b < W4.heap.size := HROW.out.lt (by simp [St.list])
  have h0 : Lp w W6 b o W5.heap.size (Value.slice wa wn wc).ownBlock (l.drop (64 * (l.length / 64)) ++ zs) (run256 iv256 l (l.length / 64)) ((l.length : Int) + (m : Int)) 0 a3 (wn + m) cap3 :=
    ⟨HCH.out.trans (K46.chg _), HROW.out.keeps K46, HBUF.out.keeps K46, HNE4.out, fun e => by have := HBUF.out.lt e; omega, HOLD4.out, HR6.out, Nat.le_trans HCH.out.size hsz5, by omega, by rw [HLL.out]; rfl, hcap3, hmx3⟩
  have H0 := Lib.hid h0; clear h0 K46
  generalize hwb : (Value.slice wa wn wc).ownBlock = wb at *
  have hfin : run256 (run256 iv256 l (l.length / 64)) (l.drop (64 * (l.length / 64)) ++ zs) ((wn + m) / 64) = run256 iv256 (l ++ zs) ((l ++ zs).length / 64) := by
    rw [run256_more]; congr 1; rw [List.length_append, HZL.out]; have := HWN.out; omega
  have hdr : (l.drop (64 * (l.length / 64)) ++ zs).drop (64 * ((wn + m) / 64)) = (l ++ zs).drop (64 * ((l ++ zs).length / 64)) := by
    have e1 : (l ++ zs).length / 64 = l.length / 64 + (wn + m) / 64 := by rw [List.length_append, HZL.out]; have := HWN.out; omega
    have e2 : (l ++ zs).drop (64 * (l.length / 64)) = l.drop (64 * (l.length / 64)) ++ zs := List.drop_append_of_le_length (by omega)
    rw [e1, Nat.mul_add, ← List.drop_drop, e2]
  have hbl : Bytes (l.drop (64 * (l.length / 64)) ++ zs) := fun x hx => by
    rcases List.mem_append.1 hx with h | h
    · exact HBY.out x (List.mem_of_mem_drop h)
    · exact HZ.out x h
  have HFIN := Lib.hid hfin; have HDR := Lib.hid hdr; have HBL := Lib.hid hbl; have HWB := Lib.hid hwb; clear hfin hdr hbl hwb
  have hok0 := run256_ok iv256_ok l (l.length / 64)
  generalize l.drop (64 * (l.length / 64)) ++ zs = L at *
  generalize run256 iv256 l (l.length / 64) = s0 at *
  have HOK0 := Lib.hid hok0; clear hok0
  clear HBUF HROW HNE4 HOLD4 HK5 HR6 HC6 hsz5 hb4
  go_frame
  go_loopg [43] ((wn + m) / 64) (fun gk s43 wr => ∃ (i : Nat) (a : Option Addr) (n c : Nat), i + gk = (wn + m) / 64 ∧ Lp w wr b o W5.heap.size wb L s0 ((l.length : Int) + (m : Int)) i a n c)
  case atStart => exact ⟨0, a3, wn + m, cap3, by omega, H0.out⟩
  case round =>
    obtain ⟨i, aa, n, c, hig, hlp⟩ := hrel
    have HLP := Lib.hid hlp
    obtain ⟨l1, l2, l3, l4, l5, l6, l7, l8, l9, l10, l11⟩ := hlp
    have hll := HLL.out
    have c8 := (l2 8 _ rfl).1
    have f8 := (l2 8 _ rfl).2
    by_cases h64 : 64 ≤ n
    · obtain ⟨g, off, cc, he, _, _, hg, hrg⟩ := l3.form (.inr (by omega))
      obtain ⟨rfl, rfl⟩ : aa = some ⟨g, off, none⟩ ∧ c = cc := by cases he; exact ⟨rfl, rfl⟩
      clear he
      have hx : Row wr g off (((L.drop (64 * i)).take 64).map (Value.int .u8)) := by rw [List.map_take]; exact hrg.take 64
      have hxl : ((L.drop (64 * i)).take 64).length = 64 := by simp; omega
      have hxb : Bytes ((L.drop (64 * i)).take 64) := fun x hx => HBL.out x (List.mem_of_mem_drop (List.mem_of_mem_take hx))
      have hstep := fun nq => step_any (run256 s0 L i) (run256_ok HOK0.out L i) _ hxl hxb b o W5.heap.size g off c (wr.drewN nq) ((l2.take 8).drewN nq) (l7.drewN nq) (hx.drewN nq)
      have HST := Lib.hid hstep; have L1 := Lib.hid l1; have L2 := Lib.hid l2; have L3 := Lib.hid l3; have L4 := Lib.hid l4; have L5 := Lib.hid l5; have L6 := Lib.hid l6; have L7 := Lib.hid l7; have L10 := Lib.hid l10; have HLL2 := Lib.hid hll
      clear hstep l1 l2 l3 l4 l5 l6 l7 l10 hll hx hxl hxb hrg
      obtain ⟨l11a, l11b⟩ := l11
      by_cases hc : c = 64
      · obtain rfl : n = 64 := by omega
        subst hc
        go_wp2
        refine wp_region_quiet_tail 8 (by kernel_rfl) (by kernel_rfl) ?_
        simp only [List.take_succ_cons, List.take_zero, List.drop_succ_cons, List.drop_zero]
        repeat (first | go_big_quiet_step (fail) | quiet_step (fail))
        refine wpQuiet_nil ?_
        intro _ hw'
        obtain ⟨nq, hw''⟩ := hw'
        subst hw''
        go_wp2_with (go_at_call 83; refine (HST.out _).mono ?_; rintro e w4 ⟨rfl, hc4, hr4, hb4⟩; have q4 := L2.out.patch (w := wr) 0 hr4 (Beside.trans (b := wr.drewN nq) (Beside.of_block rfl _ _) hb4) (by simp [St.list]); have d8 := (q4 8 _ rfl).1; have d8f := (q4 8 _ rfl).2; have Q4 := Lib.hid q4; have HC4 := Lib.hid hc4; clear q4 hc4 hr4 hb4)
        go_roundg (gk - 1)
        case measure => have e1 := L10.out; have e2 := HLL2.out; omega
        case rel =>
          have e1 := L10.out
          have e2 := HLL2.out
          have hbf := L3.out.tail_all
          simp only [← List.map_drop, List.drop_drop, show 64 * i + 64 = 64 * (i + 1) by omega] at hbf
          exact ⟨i + 1, _, _, _, by omega, HLP.out.next Q4.out ((Chg.drewN (Chg.refl _ wr) nq).trans HC4.out) _ _ _ hbf rfl (by omega) ⟨Nat.le_refl _, Nat.zero_le _⟩⟩
      · have hc' : 64 < c := by omega
        clear hc
        go_wp2
        refine wp_region_quiet_tail 8 (by kernel_rfl) (by kernel_rfl) ?_
        simp only [List.take_succ_cons, List.take_zero, List.drop_succ_cons, List.drop_zero]
        repeat (first | go_big_quiet_step (fail) | quiet_step (fail))
        refine wpQuiet_nil ?_
        intro _ hw'
        obtain ⟨nq, hw''⟩ := hw'
        subst hw''
        go_wp2_with (go_at_call 83; refine (HST.out _).mono ?_; rintro e w4 ⟨rfl, hc4, hr4, hb4⟩; have q4 := L2.out.patch (w := wr) 0 hr4 (Beside.trans (b := wr.drewN nq) (Beside.of_block rfl _ _) hb4) (by simp [St.list]); have d8 := (q4 8 _ rfl).1; have d8f := (q4 8 _ rfl).2; have Q4 := Lib.hid q4; have HC4 := Lib.hid hc4; clear q4 hc4 hr4 hb4)
        go_roundg (gk - 1)
        case measure => have e1 := L10.out; have e2 := HLL2.out; omega
        case rel =>
          have e1 := L10.out
          have e2 := HLL2.out
          have hbf := L3.out.tail (k := 64) h64
          simp only [← List.map_drop, List.drop_drop, show 64 * i + 64 = 64 * (i + 1) by omega] at hbf
          exact ⟨i + 1, _, _, _, by omega, HLP.out.next Q4.out ((Chg.drewN (Chg.refl _ wr) nq).trans HC4.out) _ _ _ hbf rfl (by omega) ⟨by omega, by omega⟩⟩
    · have hgk : gk = 0 := by omega
      subst hgk
      have HLEN := Lib.hid l10; have L1 := Lib.hid l1; have L2 := Lib.hid l2; have L3 := Lib.hid l3; have L4 := Lib.hid l4; have L6 := Lib.hid l6; have HLL2 := Lib.hid hll; have HIG := Lib.hid hig
      clear l1 l2 l3 l4 l5 l6 l7 l10 hll hig
      go_wp2
      go_end0
      have e0 := HIG.out
      have e1 := HLEN.out
      have e2 := HLL2.out
      have e4 := HZL.out
      have e5 := HWN.out
      have hi1 : i = (wn + m) / 64 := by omega
      subst hi1
      have hN : ((l ++ zs).length : Int) = (l.length : Int) + (m : Int) := by rw [List.length_append, e4]; omega
      have hnn : n = (l ++ zs).length % 64 := by rw [List.length_append, e4]; omega
      refine ⟨rfl, _, ⟨?_, by rw [List.length_append, e4]; exact hsm, ⟨_, true, run256_ok iv256_ok _ _, .inl ⟨rfl, rfl⟩, ?_⟩, ?_, L4.out⟩, ?_, ?_⟩
      · intro x hx
        rcases List.mem_append.1 hx with h | h
        · exact HBY.out x h
        · exact HZ.out x h
      · rw [hN, ← HFIN.out]; exact L2.out
      · rw [← hnn, ← HDR.out]; exact L3.out
      · rw [HWB.out]; exact L1.out
      · rw [HWB.out]; exact L6.out

/-- Add: more comes -/
theorem sum_add (b o : Nat) (wv : Value) (l : List Int) (v : Value) (m : Nat) (zs : List Int) (w : World) (hs : SumAt w b o wv l) (hr : Rd w 1 v m (zs.map (Value.int .u8)))
    (hz : Bytes zs) (hm : m ≤ 70368744177664) (hsm : l.length + m < 1152921504606846976) (hne : 0 < m → v.ownBlock ≠ some b) :
    Calls Tryd.prog 58 #[.pointer (some ⟨b, o, none⟩), v] w fun e w' => e = .returned (.tuple #[]) ∧ AddPost w w' b o wv (l ++ zs) := by
  obtain ⟨hby, hlen, ⟨st, bg, hok, hst, hrow⟩, hbuf, hap⟩ := hs
  obtain ⟨wa, wc, rfl, _⟩ := hbuf.any
  have hr0 := hr
  obtain ⟨_, a, cap, rfl, _⟩ := hr0
  rcases hst with ⟨rfl, hst⟩ | ⟨rfl, hst⟩
  · exact sum_add_more b o wa _ wc l a m cap zs w st hst hby hlen hrow hbuf hap hr hz hm hsm hne
  · exact sum_add_new b o wa _ wc l a m cap zs w st hst hby hlen hrow hbuf hap hr hz hm hsm hne
end Go.Proofs.YtlofddoojkeakaaDoor
