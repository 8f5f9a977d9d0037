/- The reference's SHA-512 (strongboxref02.Sum512) is SHA-512. -/
import Derived.Test.YthfepfpmkckdnaaDoorFill
import Derived.Test.YthfepfpmkckdnaaDoorStep5
namespace Go.Proofs.YthfepfpmkckdnaaDoor.B64
set_option linter.unusedVariables false
set_option linter.unusedSimpArgs false
open Go Go.RowKit

theorem lowB_bytes (v : Int) (k : Nat) : Bytes (lowB v k) := by
  induction k with
  | zero => intro x hx; simp [lowB] at hx
  | succ k ih =>
    intro x hx
    rcases List.mem_append.1 hx with h | h
    · exact ih x h
    · rw [List.mem_singleton.1 h]; unfold Byte; omega
theorem fillL_bytes (size len n : Nat) (low : Bool) : Bytes (fillL size len n low) := by
  intro x hx
  simp only [fillL, List.mem_cons, List.mem_append, List.mem_replicate] at hx
  rcases hx with rfl | ⟨_, rfl⟩ | hx
  · unfold Byte; omega
  · unfold Byte; omega
  · cases low
    · exact lowB_bytes _ _ x (by simpa using hx)
    · exact lowB_bytes _ _ x (by simpa using hx)
theorem snext_ref (ws : List Int) (n : Nat) : (ssig1 (ws.getD (n - 2) 0) + ws.getD (n - 7) 0 + ssig0 (ws.getD (n - 15) 0) + ws.getD (n - 16) 0) % 18446744073709551616 = snext ws n := by
  unfold snext; congr 1; omega
/-- the bytes of the words, the greatest first -/
def outB (ws : List Int) : List Int := (List.range 64).map fun i => ws.getD (i / 8) 0 / 2 ^ (56 - 8 * (i % 8)) % 256
theorem outB_length (ws : List Int) : (outB ws).length = 64 := by simp [outB]
theorem outB_getD (s : St) (i : Nat) (hi : i < 64) : (outB s.list).getD i 0 = s.list.getD (i / 8) 0 / 2 ^ (56 - 8 * (i % 8)) % 256 := by
  simp [outB, List.getD, hi]
theorem outB_bytes (ws : List Int) : Bytes (outB ws) := by
  intro x hx
  obtain ⟨i, _, rfl⟩ := List.mem_map.1 hx
  unfold Byte; omega
def outR (s : St) (i : Nat) : List Int := (outB s.list).take i ++ List.replicate (64 - i) 0
theorem outR_zero (s : St) : outR s 0 = List.replicate 64 0 := rfl
theorem outR_full (s : St) : outR s 64 = outB s.list := by
  unfold outR
  rw [List.take_of_length_le (by rw [outB_length]; omega)]; simp
theorem outR_length (s : St) (i : Nat) (h : i ≤ 64) : (outR s i).length = 64 := by simp [outR, outB_length]; omega
theorem outR_set (s : St) (i : Nat) (h : i < 64) : (outR s i).set i (s.list.getD (i / 8) 0 / 2 ^ (56 - 8 * (i % 8)) % 256) = outR s (i + 1) := by
  rw [← outB_getD s i h]
  unfold outR
  rw [List.set_append_right _ _ (by simp [outB_length]; omega)]
  have e : i - ((outB s.list).take i).length = 0 := by simp [outB_length]; omega
  rw [e, show 64 - i = (64 - (i + 1)) + 1 by omega, List.replicate_succ, List.set_cons_zero]
  have hl : i < (outB s.list).length := by rw [outB_length]; exact h
  rw [List.take_succ_eq_append_getElem hl, List.append_assoc]
  simp [List.getD, hl]
theorem list_ok {s : St} (h : s.ok) (i : Nat) : W64 (s.list.getD i 0) := by
  obtain ⟨h0, h1, h2, h3, h4, h5, h6, h7⟩ := h
  rcases i with _ | _ | _ | _ | _ | _ | _ | _ | i
  all_goals first | assumption | exact ⟨by simp [St.list], by simp [St.list]⟩
/-- SHA-512 -/
def msg512 (l : List Int) : List Int := l ++ fillL 128 16 l.length false
def sha512 (l : List Int) : List Int := outB (run512 iv512 (msg512 l) ((msg512 l).length / 128)).list
theorem sha512_length (l : List Int) : (sha512 l).length = 64 := outB_length _
theorem sha512_bytes (l : List Int) : Bytes (sha512 l) := outB_bytes _
/-- what the reference's Sum512 holds at a block's beginning -/
structure RefAt (w W : World) (p2 p3 p4 gm om : Nat) (M : List Int) (s : St) : Prop where
  keeps : Keeps w W
  res : Row W p2 0 (List.replicate 64 (Value.int .u8 0))
  key : Row W p3 0 (k512.map (Value.int .u64))
  st : Row W p4 0 (s.list.map (Value.int .u64))
  msg : Row W gm om (M.map (Value.int .u8))
  new : w.heap.size ≤ p4 ∧ p2 ≠ p4 ∧ p3 ≠ p4 ∧ gm ≠ p4
theorem RefAt.step {w W W' : World} {p2 p3 p4 gm om : Nat} {M : List Int} {s : St} (h : RefAt w W p2 p3 p4 gm om M s) (hk : Keeps W W') : RefAt w W' p2 p3 p4 gm om M s :=
  ⟨h.keeps.trans hk, h.res.keeps hk, h.key.keeps hk, h.st.keeps hk, h.msg.keeps hk, h.new⟩
theorem RefAt.chg {w W W' : World} {p2 p3 p4 gm om : Nat} {M : List Int} {s s' : St} (h : RefAt w W p2 p3 p4 gm om M s) (hc : Chg (· = p4) W W') (hr : Row W' p4 0 (s'.list.map (Value.int .u64))) : RefAt w W' p2 p3 p4 gm om M s' :=
  ⟨keeps_chg h.keeps hc h.new.1, h.res.chg hc h.new.2.1, h.key.chg hc h.new.2.2.1, hr, h.msg.chg hc h.new.2.2.2, h.new⟩
theorem RefAt.other {w W W' : World} {p2 p3 p4 gm om q : Nat} {M : List Int} {s : St} (h : RefAt w W p2 p3 p4 gm om M s) (hc : Chg (· = q) W W') (hq : w.heap.size ≤ q) (h2 : p2 ≠ q) (h3 : p3 ≠ q) (h4 : p4 ≠ q) (hg : gm ≠ q) : RefAt w W' p2 p3 p4 gm om M s :=
  ⟨keeps_chg h.keeps hc hq, h.res.chg hc h2, h.key.chg hc h3, h.st.chg hc h4, h.msg.chg hc hg, h.new⟩
theorem row_eight0 {w : World} {b : Nat} {s : St} (h : Row w b 0 (s.list.map (Value.int .u64))) : w.cell? ⟨b, 0, none⟩ = some (.int .u64 s.a) ∧ w.cell? ⟨b, 1, none⟩ = some (.int .u64 s.b) ∧ w.cell? ⟨b, 2, none⟩ = some (.int .u64 s.c) ∧ w.cell? ⟨b, 3, none⟩ = some (.int .u64 s.d)
    ∧ w.cell? ⟨b, 4, none⟩ = some (.int .u64 s.e) ∧ w.cell? ⟨b, 5, none⟩ = some (.int .u64 s.f) ∧ w.cell? ⟨b, 6, none⟩ = some (.int .u64 s.g) ∧ w.cell? ⟨b, 7, none⟩ = some (.int .u64 s.h) := by
  have := row_eight h
  simpa using this
theorem row_round {w : World} {b : Nat} {s : St} (k xx x y : Int) (h : Row w b 0 [.int .u64 y, .int .u64 s.a, .int .u64 s.b, .int .u64 s.c, .int .u64 x, .int .u64 s.e, .int .u64 s.f, .int .u64 s.g])
    (hx : x = (s.round k xx).e) (hy : y = (s.round k xx).a) : Row w b 0 ((s.round k xx).list.map (Value.int .u64)) := by
  subst hx hy; exact h
theorem sz_st8u : (Tryd.prog.info? 84).map (·.size) = some 8 := by kernel_rfl
set_option maxHeartbeats 4000000 in
set_option maxRecDepth 100000 in
theorem ref_sum512 (v : Value) (n : Nat) (zs : List Int) (w : World) (hr : Rd w 1 v n (zs.map (Value.int .u8))) (hz : Bytes zs) (hn : n ≤ 35184372088832) :
    Calls Tryd.prog 31 #[v] w fun e w' => e = .returned (.agg ((sha512 zs).map (Value.int .u8)).toArray) ∧ Keeps w w' := by
  have hzl : zs.length = n := by have := hr.1; simpa using this
  have hf63 : fillN 128 16 n ≤ 127 := (by unfold fillN; omega)
  have hml : (zs ++ fillL 128 16 n false).length = n + (17 + fillN 128 16 n) := by rw [List.length_append, fillL_length, hzl]; omega
  have hmb : Bytes (zs ++ fillL 128 16 n false) := by
    intro x hx
    rcases List.mem_append.1 hx with h | h
    · exact hz x h
    · exact fillL_bytes 128 16 n false x h
  have hmod : (n + (17 + fillN 128 16 n)) % 128 = 0 := by unfold fillN; omega
  have hsha : sha512 zs = outB (run512 iv512 (zs ++ fillL 128 16 n false) ((n + (17 + fillN 128 16 n)) / 128)).list := by unfold sha512 msg512; rw [hzl, hml]
  have hfill : ∀ W, Keeps w W → Calls Tryd.prog 48 #[v, .int .i64 128, .int .i64 16, .bool false] W fun e w' => ∃ v', e = .returned v' ∧ Own W w' v' (n + (1 + fillN 128 16 n + 16)) (zs ++ fillL 128 16 n false) := fun W h => fill_any 128 16 (.inr ⟨rfl, rfl⟩) false v n zs W (hr.keeps h) (by omega)
  simp only [show n + (1 + fillN 128 16 n + 16) = n + (17 + fillN 128 16 n) by omega] at hfill
  rw [hsha]
  have HFILL := Lib.hid hfill; have HMB := Lib.hid hmb; have HML := Lib.hid hml
  clear hr hz hzl hfill hmb hml hsha
  obtain ⟨B, hB⟩ : ∃ B, n + (17 + fillN 128 16 n) = 128 * B := ⟨(n + (17 + fillN 128 16 n)) / 128, by omega⟩
  rw [show (n + (17 + fillN 128 16 n)) / 128 = B by omega]
  rw [hB] at HFILL HML
  generalize zs ++ fillL 128 16 n false = M at *
  have hBb : B ≤ 549755813890 := by omega
  clear hmod hf63
  go_enter Tryd.func31, Tryd.ntmps31
  go_upto_region 1 with (fail)
  refine wp_gen (fun W => Keeps w W ∧ w.heap.size < W.heap.size ∧ Row W w.heap.size 0 (List.replicate 64 (Value.int .u8 0))) ⟨(Keeps.refl _).alloc (Nat.le_refl _) _, by show _ < (w.heap.push _).size; rw [Array.size_push]; omega, Row.new _ _ _ rfl⟩ ?_
  intro W1 ⟨hk1, hl1, hr1⟩
  have HK1 := Lib.hid hk1; have HR1 := Lib.hid hr1
  clear hk1 hr1
  go_upto_region 2 with (first | (refine wpList_buildFlatArr rfl 85 61 80 _ rfl .u64 k512 Tryd.underlying85 sz_u64 (by kernel_rfl) (by kernel_rfl) ?_) | (refine wpList_store_row rfl 85 (.tmp 3) (.tmp 20) rfl W1.heap.size 0 rfl (List.replicate 80 (Value.int .u64 0)) (k512.map (Value.int .u64)) rfl (Row.new _ _ _ rfl) (by kernel_rfl) (by kernel_rfl) (int_oneCell _) ?_; intro W2 hr2 hc2; have HR2 := Lib.hid hr2; have HC2 := Lib.hid hc2; clear hr2 hc2))
  have hk2 : Keeps w W2 := keeps_chg (keeps_alloc HK1.out _) HC2.out (Nat.le_of_lt hl1)
  have hr12 : Row W2 w.heap.size 0 (List.replicate 64 (Value.int .u8 0)) := (HR1.out.alloc _).chg HC2.out (by omega)
  have hl2 : W1.heap.size < W2.heap.size := HR2.out.lt (by simp [k512])
  have HK2 := Lib.hid hk2; have HR12 := Lib.hid hr12
  clear hk2 hr12 HK1 HR1 HC2
  obtain ⟨p2, hp2⟩ : ∃ p, p = w.heap.size := ⟨_, rfl⟩
  obtain ⟨p3, hp3⟩ : ∃ p, p = W1.heap.size := ⟨_, rfl⟩
  rw [← hp2] at HR12 ⊢
  rw [← hp3] at HR2 ⊢
  have HP2 := Lib.hid hp2; have HP3 := Lib.hid hp3
  clear hp2 hp3
  go_upto_region 3 with (refine wpList_store_row rfl 84 (.tmp 4) (.tmp 21) rfl W2.heap.size 0 rfl (List.replicate 8 (Value.int .u64 0)) (iv512.list.map (Value.int .u64)) rfl (Row.new _ _ _ rfl) rfl (by kernel_rfl) (int_oneCell _) ?_; intro W3 hr3 hc3; have HR3 := Lib.hid hr3; have HC3 := Lib.hid hc3; clear hr3 hc3)
  have hp4 : W2.heap.size < W3.heap.size := HR3.out.lt (by simp [St.list])
  have hk3 : Keeps w W3 := keeps_chg (keeps_alloc HK2.out _) HC3.out HK2.out.size
  have hr13 : Row W3 p2 0 (List.replicate 64 (Value.int .u8 0)) := (HR12.out.alloc _).chg HC3.out (by have := HP2.out; omega)
  have hr23 : Row W3 p3 0 (k512.map (Value.int .u64)) := (HR2.out.alloc _).chg HC3.out (by have := HP3.out; omega)
  have HK3 := Lib.hid hk3; have HR13 := Lib.hid hr13; have HR23 := Lib.hid hr23
  clear hk3 hr13 hr23 HK2 HR12 HR2 HC3
  obtain ⟨p4, hp4e⟩ : ∃ p, p = W2.heap.size := ⟨_, rfl⟩
  rw [← hp4e] at HR3 hp4 ⊢
  have HP4 := Lib.hid hp4e
  clear hp4e
  go_upto_region 4 with (go_at_call 48; refine (HFILL.out _ HK3.out).mono ?_; rintro e W4 ⟨vm, rfl, hO⟩; have HO := Lib.hid hO; clear hO)
  obtain ⟨gm, om, cm, rfl, hcm1, hcm2, hgm, hrm⟩ := HO.out.buf.form (.inr (by omega))
  have hra : RefAt w W4 p2 p3 p4 gm om M (run512 iv512 M 0) := ⟨HK3.out.trans HO.out.keeps, HR13.out.keeps HO.out.keeps, HR23.out.keeps HO.out.keeps, HR3.out.keeps HO.out.keeps, hrm, by have := HO.out.new gm rfl; have := HK3.out.size; have := HP2.out; have := HP3.out; have := HP4.out; omega⟩
  have HRA := Lib.hid hra
  clear hra hrm HO HK3 HR13 HR23 HR3 HFILL
  go_wp2
  go_loopw [6] (fun c wr => ∃ i : Nat, i ≤ B ∧ c = .int .i64 (128 * (i : Int)) ∧ RefAt w wr p2 p3 p4 gm om M (run512 iv512 M i)) (fun c _ => (128 * B - intOf c).toNat)
  case atStart => exact ⟨0, by omega, by go_num, HRA.out⟩
  case round =>
    obtain ⟨i, hi, rfl, hra⟩ := hrel
    have HRI := Lib.hid hra
    clear hra HRA
    by_cases hlt : i < B
    · have hl : ((M.drop (128 * i)).take 128).length = 128 := by have := HML.out; simp; omega
      have hlb : Bytes ((M.drop (128 * i)).take 128) := fun x hx => HMB.out x (List.mem_of_mem_drop (List.mem_of_mem_take hx))
      have hok := run512_ok iv512_ok M i
      have hnx : run512 iv512 M (i + 1) = compress (run512 iv512 M i) ((M.drop (128 * i)).take 128) := rfl
      have hlr : ∀ W s, RefAt w W p2 p3 p4 gm om M s → Row W gm (om + 128 * i) (((M.drop (128 * i)).take 128).map (Value.int .u8)) := fun W s h => by
        have := (h.msg.drop (128 * i)).take 128
        rwa [← List.map_drop, ← List.map_take] at this
      generalize (M.drop (128 * i)).take 128 = l at *
      generalize run512 iv512 M i = s at *
      have HNX := Lib.hid hnx; have HOK := Lib.hid hok; have HLB := Lib.hid hlb; have HL := Lib.hid hl; have HLR := Lib.hid hlr
      clear hnx hok hlb hl hlr
      go_upto_region 8 with (fail)
      obtain ⟨q, hq⟩ : ∃ q, q = wr.heap.size := ⟨_, rfl⟩
      have hraq : RefAt w (wr.alloc (.cells (List.replicate 80 (Value.int .u64 0)).toArray 85)) p2 p3 p4 gm om M s := HRI.out.step (keeps_alloc (Keeps.refl _) _)
      have hrq : Row (wr.alloc (.cells (List.replicate 80 (Value.int .u64 0)).toArray 85)) q 0 ((sbuf l 0).map (Value.int .u64)) := by rw [hq]; exact Row.new _ _ _ (by simp [sbuf, sched])
      have hqb : w.heap.size ≤ q ∧ p2 ≠ q ∧ p3 ≠ q ∧ p4 ≠ q ∧ gm ≠ q := by
        have h1 := HRI.out.res.lt (by simp)
        have h2 := HRI.out.key.lt (by simp [k512])
        have h3 := HRI.out.st.lt (by simp [St.list])
        have h4 := (HLR.out wr s HRI.out).lt (by intro e; have := congrArg List.length e; rw [List.length_map, HL.out] at this; simp at this)
        have h5 := HRI.out.keeps.size
        omega
      have hwq : q < (wr.alloc (.cells (List.replicate 80 (Value.int .u64 0)).toArray 85)).heap.size := by rw [hq]; simp
      rw [← hq]
      refine wp_gen (fun W => RefAt w W p2 p3 p4 gm om M s ∧ q < W.heap.size ∧ Row W q 0 ((sbuf l 0).map (Value.int .u64))) ⟨hraq, hwq, hrq⟩ ?_
      clear hraq hwq hrq hq
      intro Wa ⟨hra, hqa, hrq⟩
      have HRA := Lib.hid hra; have HRQ := Lib.hid hrq; have HQB := Lib.hid hqb
      clear hra hrq HRI hqb
      have HRM := Lib.hid (HLR.out Wa s HRA.out)
      clear HLR
      go_wp2
      go_loopw [8] (fun c wr => ∃ t : Nat, t ≤ 16 ∧ c = .int .i64 t ∧ Chg (· = q) Wa wr ∧ Row wr q 0 ((sbuf l t).map (Value.int .u64))) (fun c _ => (16 - intOf c).toNat)
      case atStart => exact ⟨0, by omega, rfl, Chg.refl _ _, HRQ.out⟩
      case round =>
        obtain ⟨t, ht, rfl, hch, hrt⟩ := hrel
        by_cases hlt2 : t < 16
        · rw [← wbuf_zero l t (by omega)] at hrt
          have HRT := Lib.hid hrt; have HCH := Lib.hid hch
          clear hrt hch
          go_wp2
          go_loopw [9] (fun c wr => ∃ k : Nat, k ≤ 8 ∧ c = .int .i64 k ∧ Chg (· = q) Wa wr ∧ Row wr q 0 ((wbuf l t k).map (Value.int .u64))) (fun c _ => (8 - intOf c).toNat)
          case atStart => exact ⟨0, by omega, rfl, HCH.out, HRT.out⟩
          case round =>
            obtain ⟨k, hk, rfl, hch, hrt⟩ := hrel
            by_cases hlt3 : k < 8
            · have hcm := (HRM.out.chg hch HQB.out.2.2.2.2).int (8 * t + k) (by have := HL.out; omega)
              have hcq := hrt.int0 t (by rw [wbuf_length _ _ _ (by omega)]; omega)
              have hcf := hrt.free0 t (by rw [List.length_map, wbuf_length _ _ _ (by omega)]; omega)
              rw [wbuf_getD _ _ _ (by omega)] at hcq
              rw [show om + 128 * i + (8 * t + k) = om + (128 * i + 8 * t + k) by omega] at hcm
              have hib : 128 * (i : Int) + 8 * t + k < 128 * B := by omega
              have hbb := HLB.out.getD (8 * t + k)
              have hww := wpart_range l t k
              have hset := fun nq => (hrt.drewN nq).setInt0 t (by rw [wbuf_length _ _ _ (by omega)]; omega) (wpart l t (k + 1))
              simp only [wbuf_set] at hset
              have HST := Lib.hid (show wpart l t (k + 1) = (wpart l t k * 256 + l.getD (8 * t + k) 0) % 18446744073709551616 from rfl)
              have HSET := Lib.hid hset; have HCH := Lib.hid hch
              clear hset hch hrt
              generalize l.getD (8 * t + k) 0 = y at *
              generalize wpart l t k = x at *
              obtain ⟨y0, y1⟩ := hbb
              obtain ⟨x0, x1⟩ := hww
              go_wp2
              refine wp_region_quiet_tail 17 (by kernel_rfl) (by kernel_rfl) ?_
              simp only [List.take_succ_cons, List.take_zero, List.drop_succ_cons, List.drop_zero]
              repeat (first | go_big_quiet_step (fail) | quiet_step (fail))
              refine wpQuiet_nil ?_
              intro _ hw'
              obtain ⟨nq, hw''⟩ := hw'
              subst hw''
              go_wp2
              go_roundw
              case rel => exact ⟨k + 1, by omega, by go_num, (HCH.out.trans ((Qt.drewN wr nq).keeps.chg _)).setCell (.inr rfl) _, by rw [show IntKind.u64.wrap (IntKind.u64.wrap (x * 256) + y) = wpart l t (k + 1) by rw [HST.out]; simp only [IntKind.wrap_u64]; omega]; exact HSET.out _⟩
              case measure => simp [intOf]; omega
            · obtain rfl : k = 8 := by omega
              rw [wbuf_full l t hlt2] at hrt
              have HRT := Lib.hid hrt; have HCH := Lib.hid hch
              clear hrt hch
              go_wp2
              go_roundw
              case rel => exact ⟨t + 1, by omega, by go_num, HCH.out, HRT.out⟩
              case measure => simp [intOf]; omega
        · obtain rfl : t = 16 := by omega
          have HRT := Lib.hid hrt; have HCH := Lib.hid hch
          clear hrt hch
          go_wp2
          go_loopw [10] (fun c wr => ∃ t : Nat, 16 ≤ t ∧ t ≤ 80 ∧ c = .int .i64 t ∧ Chg (· = q) Wa wr ∧ Row wr q 0 ((sbuf l t).map (Value.int .u64))) (fun c _ => (80 - intOf c).toNat)
          case atStart => exact ⟨16, by omega, by omega, rfl, HCH.out, HRT.out⟩
          case round =>
            obtain ⟨t, ht16, ht, rfl, hch, hr⟩ := hrel
            by_cases hlt2 : t < 80
            · have hd := hr.int0 t (by rw [sbuf_length _ _ ht]; exact hlt2)
              have hf := hr.free0 t (by simp [sbuf_length _ _ ht]; exact hlt2)
              have c16 := hr.int0 (t - 16) (by rw [sbuf_length _ _ ht]; omega)
              have c7 := hr.int0 (t - 7) (by rw [sbuf_length _ _ ht]; omega)
              have c15 := hr.int0 (t - 15) (by rw [sbuf_length _ _ ht]; omega)
              have c2 := hr.int0 (t - 2) (by rw [sbuf_length _ _ ht]; omega)
              rw [sbuf_getD _ _ _ (by omega)] at c16 c7 c15 c2
              have w15 := (sched_words l t).getD (t - 15)
              have w2 := (sched_words l t).getD (t - 2)
              have w16 := (sched_words l t).getD (t - 16)
              have w7 := (sched_words l t).getD (t - 7)
              have HSET := fun (nq : Nat) (x : Int) (hx : x = snext (sched l t) t) => sbuf_row (hr.drewN nq) hlt2 x (by rw [if_neg (by omega)]; exact hx)
              have HW : Hid (snext (sched l t) t = ((sched l t).getD (t - 16) 0 + (sched l t).getD (t - 7) 0 + ssig0 ((sched l t).getD (t - 15) 0) + ssig1 ((sched l t).getD (t - 2) 0)) % 18446744073709551616) := Lib.hid rfl
              have HS2 := Lib.hid HSET; have HCH := Lib.hid hch
              clear hr HSET hch
              generalize (sched l t).getD (t - 16) 0 = y0 at *
              generalize (sched l t).getD (t - 7) 0 = y1 at *
              generalize (sched l t).getD (t - 15) 0 = y2 at *
              generalize (sched l t).getD (t - 2) 0 = y3 at *
              have W15 := w15
              have W02 := w2
              obtain ⟨b20, b21⟩ := w15
              obtain ⟨b30, b31⟩ := w2
              obtain ⟨b00, b01⟩ := w16
              obtain ⟨b10, b11⟩ := w7
              go_wp2
              go_quiet (((go_at_call 49; first | exact s1 (rot_any _ _ (by omega) (by omega) (by assumption) _) | exact s2 (rot_any _ _ (by omega) (by omega) (by assumption) _) | exact q1 (rot_any _ _ (by omega) (by omega) (by assumption) _) | exact q2 (rot_any _ _ (by omega) (by omega) (by assumption) _))))
              go_wp2
              go_quiet (((go_at_call 49; first | exact s1 (rot_any _ _ (by omega) (by omega) (by assumption) _) | exact s2 (rot_any _ _ (by omega) (by omega) (by assumption) _) | exact q1 (rot_any _ _ (by omega) (by omega) (by assumption) _) | exact q2 (rot_any _ _ (by omega) (by omega) (by assumption) _))))
              go_wp2
              refine wp_region_quiet_tail 15 (by kernel_rfl) (by kernel_rfl) ?_
              simp only [List.take_succ_cons, List.take_zero, List.drop_succ_cons, List.drop_zero]
              repeat (first | go_big_quiet_step (fail) | quiet_step (fail))
              refine wpQuiet_nil ?_
              intro _ hw'
              obtain ⟨nq, hw''⟩ := hw'
              subst hw''
              go_wp2
              go_roundw
              case rel =>
                exact ⟨t + 1, by omega, by omega, by go_num, (HCH.out.trans ((Qt.keeps (by repeat (first | exact Qt.refl _ | exact Qt.drewN _ _ | refine Qt.trans ?_ (Qt.drewN _ _)))).chg _)).setCell (.inr rfl) _, HS2.out _ _ (by rw [HW.out]; unfold ssig0 ssig1; (try simp only [IntKind.wrap_u64]); omega)⟩
              case measure => simp [intOf]; omega
            · obtain rfl : t = 80 := by omega
              rw [sbuf_full] at hr
              obtain ⟨Wb, hWb⟩ : ∃ Wb, Wb = wr := ⟨_, rfl⟩
              subst hWb
              have hrb : RefAt w Wb p2 p3 p4 gm om M s := HRA.out.other hch HQB.out.1 HQB.out.2.1 HQB.out.2.2.1 HQB.out.2.2.2.1 HQB.out.2.2.2.2
              have hl80 : (sched l 80).length = 80 := sched_length l 80
              have hfin : compress s l = s.plus (rounds s (sched l 80) 80) := rfl
              have hww := sched_words l 80
              generalize sched l 80 = ws at *
              have HL80 := Lib.hid hl80; have HRW := Lib.hid hr; have HRB := Lib.hid hrb; have HF := Lib.hid hfin; have HWW := Lib.hid hww
              clear hl80 hr hrb hfin hww hch HRT HCH HRA HRQ HRM
              have Z8 : Hid ((Tryd.prog.info? 84).map (·.size) = some (s.list.map (Value.int .u64)).length) := Lib.hid sz_st8u
              go_upto_region 22 with (first | (refine wpList_load_at rfl 84 (.tmp 4) rfl p4 0 rfl (s.list.map (Value.int .u64)) _ HRB.out.st Tryd.underlying84 rfl Z8.out ?_) | (refine wpList_store_row rfl 84 (.tmp 13) (.tmp 108) rfl Wb.heap.size 0 rfl (List.replicate 8 (Value.int .u64 0)) (s.list.map (Value.int .u64)) rfl (Row.new _ _ _ rfl) rfl Z8.out (int_oneCell _) ?_; intro Wc hrc hcc; have HRV := Lib.hid hrc; have HCC := Lib.hid hcc; clear hrc hcc))
              obtain ⟨q2, hq2⟩ : ∃ q, q = Wb.heap.size := ⟨_, rfl⟩
              have hqq : q < q2 := by rw [hq2]; exact HRW.out.lt (by intro e; have := congrArg List.length e; rw [List.length_map, HL80.out] at this; simp at this)
              have hqb2 : w.heap.size ≤ q2 ∧ p2 ≠ q2 ∧ p3 ≠ q2 ∧ p4 ≠ q2 ∧ gm ≠ q2 := by
                have h1 := HRB.out.res.lt (by simp)
                have h2 := HRB.out.key.lt (by simp [k512])
                have h3 := HRB.out.st.lt (by simp [St.list])
                have h4 := HRB.out.msg.lt (by intro e; have := congrArg List.length e; rw [List.length_map, HML.out] at this; simp at this; omega)
                have h5 := HRB.out.keeps.size
                omega
              rw [← hq2] at HRV HCC ⊢
              have hrc : RefAt w Wc p2 p3 p4 gm om M s := (HRB.out.step (keeps_alloc (Keeps.refl _) _)).other HCC.out hqb2.1 hqb2.2.1 hqb2.2.2.1 hqb2.2.2.2.1 hqb2.2.2.2.2
              have hrw : Row Wc q 0 (ws.map (Value.int .u64)) := (HRW.out.alloc _).chg HCC.out (by omega)
              clear hq2 HRB HRW HCC
              have HRC := Lib.hid hrc; have HRW := Lib.hid hrw; have HQ2 := Lib.hid hqb2
              clear hrc hrw hqb2
              go_wp2
              go_loopw [14] (fun c wr => ∃ t : Nat, t ≤ 80 ∧ c = .int .i64 t ∧ Chg (· = q2) Wc wr ∧ Row wr q2 0 ((rounds s ws t).list.map (Value.int .u64))) (fun c _ => (80 - intOf c).toNat)
              case atStart => exact ⟨0, by omega, rfl, Chg.refl _ _, HRV.out⟩
              case round =>
                obtain ⟨t, ht, rfl, hch, hv⟩ := hrel
                by_cases hlt2 : t < 80
                · obtain ⟨v0, v1, v2, v3, v4, v5, v6, v7⟩ := row_eight0 hv
                  have hkc := (HRC.out.key.chg hch HQ2.out.2.2.1).int0 t (by rw [k512_length]; exact hlt2)
                  have hwc := (HRW.out.chg hch (by omega)).int0 t (by rw [HL80.out]; exact hlt2)
                  have hok := rounds_ok HOK.out ws t
                  have hwi := HWW.out.getD t
                  have hkw := k512_words.getD t
                  have hrd : rounds s ws (t + 1) = (rounds s ws t).round (k512.getD t 0) (ws.getD t 0) := rfl
                  generalize k512.getD t 0 = kk at *
                  generalize ws.getD t 0 = xx at *
                  generalize rounds s ws t = r at *
                  obtain ⟨ra, rb, rc, rd, re, rf, rg, rh⟩ := r
                  have HV := Lib.hid hv; have HRD := Lib.hid hrd; have HCH := Lib.hid hch
                  clear hv hrd hch
                  obtain ⟨o0, o1, o2, o3, o4, o5, o6, o7⟩ := hok
                  simp only at v0 v1 v2 v3 v4 v5 v6 v7 o0 o1 o2 o3 o4 o5 o6 o7
                  have a0 := o0.1; have a1 := o0.2; have e0 := o4.1; have e1 := o4.2
                  go_wp2
                  go_quiet (((go_at_call 49; first | exact s1 (rot_any _ _ (by omega) (by omega) (by assumption) _) | exact s2 (rot_any _ _ (by omega) (by omega) (by assumption) _) | exact q1 (rot_any _ _ (by omega) (by omega) (by assumption) _) | exact q2 (rot_any _ _ (by omega) (by omega) (by assumption) _))))
                  go_wp2
                  go_quiet (((go_at_call 49; first | exact s1 (rot_any _ _ (by omega) (by omega) (by assumption) _) | exact s2 (rot_any _ _ (by omega) (by omega) (by assumption) _) | exact q1 (rot_any _ _ (by omega) (by omega) (by assumption) _) | exact q2 (rot_any _ _ (by omega) (by omega) (by assumption) _))))
                  go_wp2_with (refine wpList_store_row rfl 84 (.tmp 13) (.tmp 196) rfl q2 0 rfl _ [_, _, _, _, _, _, _, _] rfl (HV.out.drewN _) rfl sz_st8u (by intro v hv; simp only [List.mem_cons, List.not_mem_nil, or_false] at hv; rcases hv with rfl | rfl | rfl | rfl | rfl | rfl | rfl | rfl <;> rfl) ?_; intro w3 hr3 hc3; have HR3 := Lib.hid hr3; have HC3 := Lib.hid hc3; clear hr3 hc3)
                  go_roundw
                  case rel =>
                    refine ⟨t + 1, by omega, by go_num, (HCH.out.trans ((Qt.keeps (by repeat (first | exact Qt.refl _ | exact Qt.drewN _ _ | refine Qt.trans ?_ (Qt.drewN _ _)))).chg _)).trans HC3.out, ?_⟩
                    rw [HRD.out]
                    refine row_round kk xx _ _ HR3.out ?_ ?_
                    · simp only [St.round, tone, bsig1, chf, IntKind.wrap_u64]; omega
                    · simp only [St.round, tone, ttwo, bsig1, bsig0, chf, majf, IntKind.wrap_u64]; omega
                  case measure => simp [intOf]; omega
                · obtain rfl : t = 80 := by omega
                  obtain ⟨Wd, hWd⟩ : ∃ Wd, Wd = wr := ⟨_, rfl⟩
                  subst hWd
                  have hrd : RefAt w Wd p2 p3 p4 gm om M s := HRC.out.other hch HQ2.out.1 HQ2.out.2.1 HQ2.out.2.2.1 HQ2.out.2.2.2.1 HQ2.out.2.2.2.2
                  generalize rounds s ws 80 = r at *
                  have hst := hrd.st
                  rw [← mixl_zero s r] at hst
                  have HRD := Lib.hid hrd; have HST := Lib.hid hst; have HV := Lib.hid hv
                  clear hrd hst hv hch HRC HRW HRV
                  go_wp2
                  go_loopw [17] (fun c wr => ∃ t : Nat, t ≤ 8 ∧ c = .int .i64 t ∧ Chg (· = p4) Wd wr ∧ Row wr p4 0 ((mixl s r t).map (Value.int .u64))) (fun c _ => (8 - intOf c).toNat)
                  case atStart => exact ⟨0, by omega, rfl, Chg.refl _ _, HST.out⟩
                  case round =>
                    obtain ⟨t, ht, rfl, hch, hr1⟩ := hrel
                    by_cases hlt2 : t < 8
                    · have c1 := hr1.int0 t (by rw [mixl_length _ _ _ ht]; exact hlt2)
                      rw [mixl_getD _ _ _ hlt2] at c1
                      have f1 := hr1.free0 t (by rw [List.length_map, mixl_length _ _ _ ht]; exact hlt2)
                      have c2 := (HV.out.chg hch (Ne.symm HQ2.out.2.2.2.1)).int0 t (by rw [list_length]; exact hlt2)
                      have HSET := Lib.hid (fun nq => mix_row (o := 0) (hr1.drewN nq) hlt2)
                      have HCH := Lib.hid hch
                      clear hr1 hch
                      generalize s.list.getD t 0 = y1 at *
                      generalize r.list.getD t 0 = y2 at *
                      go_wp2
                      refine wp_region_quiet_tail 9 (by kernel_rfl) (by kernel_rfl) ?_
                      simp only [List.take_succ_cons, List.take_zero, List.drop_succ_cons, List.drop_zero]
                      repeat (first | go_big_quiet_step (fail) | quiet_step (fail))
                      refine wpQuiet_nil ?_
                      intro _ hw'
                      obtain ⟨nq, hw''⟩ := hw'
                      subst hw''
                      go_wp2
                      go_roundw
                      case rel => exact ⟨t + 1, by omega, by go_num, (HCH.out.trans ((Qt.keeps (by repeat (first | exact Qt.refl _ | exact Qt.drewN _ _ | refine Qt.trans ?_ (Qt.drewN _ _)))).chg _)).setCell (.inr rfl) _, by simpa [IntKind.wrap_u64] using HSET.out nq⟩
                      case measure => simp [intOf]; omega
                    · obtain rfl : t = 8 := by omega
                      have hra := HRD.out.chg hch (s' := s.plus r) hr1
                      rw [← HF.out, ← HNX.out] at hra
                      have HRE := Lib.hid hra
                      clear hra hr1 hch
                      go_wp2
                      go_roundw
                      case rel => exact ⟨i + 1, by omega, by go_num, HRE.out⟩
                      case measure => simp [intOf]; omega
    · obtain rfl : i = B := by omega
      have hok := run512_ok iv512_ok M i
      generalize hse : run512 iv512 M i = s at *
      have HOK := Lib.hid hok; have HRB := Lib.hid HRI.out; have HSE := Lib.hid hse
      clear hok HRI hse
      go_upto_region 33 with (fail)
      obtain ⟨q, hq⟩ : ∃ q, q = wr.heap.size := ⟨_, rfl⟩
      have hraq : RefAt w (wr.alloc (.cells (List.replicate 64 (Value.int .u8 0)).toArray 49)) p2 p3 p4 gm om M s := HRB.out.step (keeps_alloc (Keeps.refl _) _)
      have hrq : Row (wr.alloc (.cells (List.replicate 64 (Value.int .u8 0)).toArray 49)) q 0 ((outR s 0).map (Value.int .u8)) := by rw [hq]; exact Row.new _ _ _ (by simp [outR])
      have hqb : w.heap.size ≤ q ∧ p2 ≠ q ∧ p4 ≠ q := by
        have h1 := HRB.out.res.lt (by simp)
        have h3 := HRB.out.st.lt (by simp [St.list])
        have h5 := HRB.out.keeps.size
        omega
      rw [← hq]
      refine wp_gen (fun W => RefAt w W p2 p3 p4 gm om M s ∧ Row W q 0 ((outR s 0).map (Value.int .u8))) ⟨hraq, hrq⟩ ?_
      clear hraq hrq hq
      intro Wa ⟨hra, hrq⟩
      have HRA := Lib.hid hra; have HRQ := Lib.hid hrq; have HQB := Lib.hid hqb
      clear hra hrq HRB hqb
      go_wp2
      go_loopw [19] (fun c wr => ∃ t : Nat, t ≤ 64 ∧ c = .int .i64 t ∧ Chg (· = q) Wa wr ∧ Row wr q 0 ((outR s t).map (Value.int .u8))) (fun c _ => (64 - intOf c).toNat)
      case atStart => exact ⟨0, by omega, rfl, Chg.refl _ _, HRQ.out⟩
      case round =>
        obtain ⟨t, ht, rfl, hch, hrt⟩ := hrel
        by_cases hlt2 : t < 64
        · have hcs := (HRA.out.st.chg hch HQB.out.2.2).int0 (t / 8) (by rw [list_length]; omega)
          have hfr := hrt.free0 t (by rw [List.length_map, outR_length _ _ (by omega)]; omega)
          have hce := hrt.int0 t (by rw [outR_length _ _ (by omega)]; omega)
          have hset := hrt.setInt0 t (by rw [outR_length _ _ (by omega)]; omega) (s.list.getD (t / 8) 0 / 2 ^ (56 - 8 * (t % 8)) % 256)
          rw [outR_set _ _ hlt2] at hset
          have hx := list_ok HOK.out (t / 8)
          have HSET := Lib.hid hset; have HCH := Lib.hid hch
          clear hset hch hrt
          generalize s.list.getD (t / 8) 0 = x at *
          obtain ⟨x0, x1⟩ := hx
          go_wp2
          go_roundw
          case rel => exact ⟨t + 1, by omega, by go_num, HCH.out.setCell (.inr rfl) _, HSET.out⟩
          case measure => simp [intOf]; omega
        · obtain rfl : t = 64 := by omega
          rw [outR_full] at hrt
          have hw2 := HRA.out.res.chg hch HQB.out.2.1
          have hkw := keeps_chg HRA.out.keeps hch HQB.out.1
          have h32 : (outB s.list).length = 64 := outB_length _
          have Z32 : Hid ((Tryd.prog.info? 49).map (·.size) = some ((outB s.list).map (Value.int .u8)).length) := by
            rw [List.length_map, h32]; exact Lib.hid (by kernel_rfl)
          have HRR := Lib.hid hrt; have HOW := Lib.hid hw2; have HKW := Lib.hid hkw
          clear hrt hch hw2 hkw
          go_wp2_with (first | (refine wpList_load_at rfl 49 (.tmp 18) rfl q 0 rfl _ _ HRR.out Tryd.underlying49 rfl Z32.out ?_) | (refine wpList_store_row rfl 49 (.tmp 2) (.tmp 227) rfl p2 0 rfl _ _ rfl HOW.out (by simp [h32]) Z32.out (int_oneCell _) ?_; intro W10 hr10 hc10; have HR10 := Lib.hid hr10; have HC10 := Lib.hid hc10; clear hr10 hc10))
          exact bodyPost_ret (v := .agg ((outB s.list).map (Value.int .u8)).toArray) (results_cell_at (p := 2) (ty := 49) rfl _ _ p2 0 _ _ rfl HR10.out Tryd.underlying49 rfl Z32.out) rfl ⟨by rw [HSE.out], Below.trans HKW.out (HC10.out.below HKW.out.size (fun k hk e => by have := HP2.out; omega))⟩
end Go.Proofs.YthfepfpmkckdnaaDoor.B64
