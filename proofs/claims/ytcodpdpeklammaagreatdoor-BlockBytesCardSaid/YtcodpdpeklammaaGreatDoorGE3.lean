/- What both read of a block, and of a head: as functions of the bytes. No condition. | The reference's Equal of bytes. | The reference's Same of transactions. -/
import Derived.Test.YtcodpdpeklammaaGreatDoorGC9
import Derived.Test.YtcodpdpeklammaaGreatDoorGE0
import Derived.Test.YtcodpdpeklammaaGreatDoorGE2
import Derived.Test.YtcodpdpeklammaaGreatDoorGC1
import Derived.Laws.BytesArg
import Derived.ChangeKeysEq
import Derived.Test.YtcodpdpeklammaaGreatDoorGA8
import Derived.Test.YtcodpdpeklammaaGreatDoorGC6
namespace Go.Proofs.YtcodpdpeklammaaGreatDoor
set_option linter.unusedVariables false
set_option linter.unusedSimpArgs false
open Go Go.RowKit

/-- what is read, and the error's number -/
def decR (l : List Int) : (HdD × List TxD) × Int := match decBlk l with
  | .ok x => (x, 0)
  | .error c => ((hd0 0, []), c)
theorem decR_ok {l : List Int} {x : HdD × List TxD} (h : decBlk l = .ok x) : decR l = (x, 0) := by unfold decR; rw [h]
theorem decR_err {l : List Int} {c : Int} (h : decBlk l = .error c) : decR l = ((hd0 0, []), c) := by unfold decR; rw [h]
theorem rtxs_nil (S T R : Nat → Prop) (W : World) : RTxs S T R W (.slice none 0 0) [] := ⟨[], [], ⟨rfl, none, 0, rfl, Nat.le_refl _, by unfold maxLen; omega, fun _ => ⟨rfl, rfl⟩, fun ad e _ => by cases e⟩, rfl, fun i p d hp => by simp at hp, by simp⟩
def DecRP (H : HdD) (T : List TxD) (E : Int) (w : World) (r : Ending) (W : World) : Prop :=
  Keeps w W ∧ HdOk H ∧ ∃ a c, r = .returned (.tuple #[.agg (blkCells H (.slice a T.length c)).toArray, .int .i64 E]) ∧ RTxs AnyB AnyB AnyB W (.slice a T.length c) T
theorem decRP_of {l : List Int} {w : World} {r : Ending} {W : World} (h : BkDecP l w r W) : DecRP (decR l).1.1 (decR l).1.2 (decR l).2 w r W := by
  obtain ⟨hk, ⟨h, txs, tv, base, hd, rfl, hok, _, ht⟩ | ⟨c, hd, _, rfl⟩⟩ := h
  · rw [decR_ok hd]
    obtain ⟨a, cap, rfl, _⟩ := ht.any
    exact ⟨hk, hok, a, cap, rfl, ht.mono (fun _ _ => trivial) (fun _ _ => trivial) (fun _ _ => trivial)⟩
  · rw [decR_err hd]
    exact ⟨hk, hd0_ok, none, 0, rfl, rtxs_nil _ _ _ _⟩
theorem bkdec_r (v : Value) (l : List Int) (N : Nat) (hN : N = l.length) (w : World) (hr : Rd w 1 v N (l.map (Value.int .u8))) (hn : N ≤ 140737488355328) (hb : Bytes l) : Calls Tryz.prog 14 #[v] w (DecRP (decR l).1.1 (decR l).1.2 (decR l).2 w) := by
  subst hN
  exact (bkdec_any v l w hr hn hb).mono fun _ _ h => decRP_of h
theorem rkdec_r (S : Nat → Prop) (v : Value) (l : List Int) (w : World) (h : RB S w v l) : Calls Tryz.prog 15 #[v] w (DecRP (decR l).1.1 (decR l).1.2 (decR l).2 w) :=
  (rkdec_any S v l w h).mono fun _ _ h => decRP_of h
/-- what DecodeHeader reads, and its error's number -/
def dhR (l : List Int) : HdD × Int := if l.length = 80 then (headOf l, 0) else if l.length < 80 then (hd0 0, 4) else (hd0 0, 3)
theorem dhead_r (v : Value) (l : List Int) (N : Nat) (hN : N = l.length) (w : World) (hr : Rd w 1 v N (l.map (Value.int .u8))) (hn : N ≤ 140737488355328) (hb : Bytes l) : Calls Tryz.prog 8 #[v] w fun r W => Keeps w W ∧ HdOk (dhR l).1 ∧ r = .returned (.tuple #[.agg (hdCells (dhR l).1).toArray, .int .i64 (dhR l).2]) := by
  subst hN
  refine (dhead_any v l w hr hn hb).mono ?_
  rintro r W ⟨hk, h, e, rfl, hok, ⟨hl, rfl, rfl⟩ | ⟨hl, rfl, rfl⟩ | ⟨hl, rfl, rfl⟩⟩
  · unfold dhR; rw [if_pos hl]; exact ⟨hk, hok, rfl⟩
  · unfold dhR; rw [if_neg (by omega), if_pos hl]; exact ⟨hk, hok, rfl⟩
  · unfold dhR; rw [if_neg (by omega), if_neg (by omega)]; exact ⟨hk, hok, rfl⟩
/-- the string of such bytes -/
theorem conv_any {S : Nat → Prop} {w : World} {v : Value} {l : List Int} (h : RB S w v l) : (convert 32 9 v).run Tryz.prog w = .ok (.string (strOfNums l)) w := by
  obtain ⟨h0, a, cap, rfl, h2, h3, h4, h5⟩ := h.rd
  by_cases hl : l.length = 0
  · have hnil : l = [] := List.length_eq_zero_iff.1 hl
    subst hnil
    show (convert 32 9 (.slice a 0 cap)).run Tryz.prog w = _
    cases a with
    | none => exact run_convert_bytes_nil w 32 5 Tryz.underlying32 Tryz.underlying5 0 cap 9 Tryz.underlying9
    | some ad =>
      rw [run_convert_bytes_string w 32 9 5 _ 0 cap Tryz.underlying32 Tryz.underlying5 Tryz.underlying9]
      simp [Conv.bytesToString, loadCells]
      rfl
  · cases a with
    | none => exact absurd (h4 rfl).1 hl
    | some ad =>
      obtain ⟨g, off, rfl, hg, hr⟩ := h5 ad rfl (by omega)
      exact run_convert_bytes_arg w 32 5 Tryz.underlying32 Tryz.underlying5 g off l.length cap l rfl (fun i hi => hr.int i hi) 9 Tryz.underlying9
theorem strOf_inj {a b : List Int} (ha : Bytes a) (hb : Bytes b) (h : strOfNums a = strOfNums b) : a = b := by
  have h1 : a.map (fun n => UInt8.ofNat n.toNat) = b.map (fun n => UInt8.ofNat n.toNat) := by rw [← strOfNums_data, ← strOfNums_data, h]
  clear h
  induction a generalizing b with
  | nil => cases b with
    | nil => rfl
    | cons _ _ => simp at h1
  | cons x r ih => cases b with
    | nil => simp at h1
    | cons y q =>
      simp only [List.map_cons, List.cons.injEq] at h1
      have hx := ha x (by simp); have hy := hb y (by simp)
      obtain ⟨x0, x1⟩ := hx
      obtain ⟨y0, y1⟩ := hy
      have e := congrArg UInt8.toNat h1.1
      simp only [UInt8.toNat_ofNat'] at e
      rw [ih (fun z hz => ha z (by simp [hz])) (fun z hz => hb z (by simp [hz])) h1.2, show x = y by omega]
theorem requal_any {S S' : Nat → Prop} {w : World} {v v' : Value} {l l' : List Int} (h : RB S w v l) (h' : RB S' w v' l') : Calls Tryz.prog 9 #[v, v'] w fun e w' => e = .returned (.bool (decide (l = l'))) ∧ w = w' := by
  have hc1 := conv_any h
  have hc2 := conv_any h'
  have hinj := strOf_inj h.bytes h'.bytes
  clear h h'
  have HC1 := Lib.hid hinj
  clear hinj
  go_enter Tryz.func9, Tryz.ntmps9
  go_wp2
  go_ret
  refine ⟨?_, rfl⟩
  by_cases e : l = l'
  · subst e
    exact ret_bool (by simp)
  · have h1 : ((strOfNums l).toList == (strOfNums l').toList) = false := beq_eq_false_iff_ne.2 (fun h2 => e (HC1.out (by
      rw [ByteArray.toList_eq, ByteArray.toList_eq] at h2
      exact ByteArray.ext (Array.toList_inj.1 h2))))
    exact ret_bool (by rw [h1, decide_eq_false e])
set_option maxRecDepth 100000 in
theorem rsameL_any {S T S' T' : Nat → Prop} {w : World} {v v' : Value} {ls ls' : List (List Int)} (h : RLL S T w v ls) (h' : RLL S' T' w v' ls') : Calls Tryz.prog 75 #[v, v'] w fun e w' => e = .returned (.bool (decide (ls = ls'))) ∧ Keeps w w' := by
  have H1 := Lib.hid h; have H2 := Lib.hid h'
  obtain ⟨a, c, rfl, hc, hcm, -⟩ := h.any
  obtain ⟨a', c', rfl, hc', hcm', -⟩ := h'.any
  have hsm : ls.length * 24 ≤ 140737488355328 := by obtain ⟨_, h⟩ := h; exact h.small
  have hsm' : ls'.length * 24 ≤ 140737488355328 := by obtain ⟨_, h⟩ := h'; exact h.small
  clear h h'
  by_cases hlen : ls.length = ls'.length
  rotate_left
  · have hne : ¬ ls = ls' := fun e => hlen (by rw [e])
    have hz : ((ls.length : Int) == ls'.length) = false := beq_eq_false_iff_ne.2 (by omega)
    rw [decide_eq_false hne]
    go_enter Tryz.func75, Tryz.ntmps75
    go_wp2
    go_ret
    exact ⟨by first | rfl | exact ret_bool (by simp), Keeps.refl _⟩
  · obtain ⟨R, hR⟩ : ∃ R : Bool, R = decide (ls = ls') := ⟨_, rfl⟩
    rw [← hR]
    have HR := Lib.hid hR
    clear hR
    have HLEN := Lib.hid hlen
    have hz : ((ls.length : Int) == ls'.length) = true := beq_iff_eq.2 (by omega)
    clear hlen
    go_enter Tryz.func75, Tryz.ntmps75
    go_upto_region 3 with (fail)
    clear hz
    try (rename (((ls.length : Int) != (ls'.length : Int)) = false) => hbad; clear hbad)
    go_wp2
    go_loopw [5] (fun c wr => ∃ i : Nat, i ≤ ls.length ∧ c = .int .i64 i ∧ Hid (Keeps w wr) ∧ Hid (∀ j, j < i → ls.getD j [] = ls'.getD j [])) (fun c _ => (ls.length - intOf c).toNat)
    case atStart => exact ⟨0, by omega, rfl, Lib.hid (Keeps.refl _), Lib.hid (fun j hj => by omega)⟩
    case round =>
      obtain ⟨i, hi, rfl, HK, HE⟩ := hrel
      by_cases hlt : i < ls.length
      · obtain ⟨g, off, u, rfl, hg, hcell, hu⟩ := (H1.out.keeps HK.out).at i hlt
        obtain ⟨g', off', u', rfl, hg', hcell', hu'⟩ := (H2.out.keeps HK.out).at i (by rw [← HLEN.out]; exact hlt)
        have hlt' : i < ls'.length := by rw [← HLEN.out]; exact hlt
        have HU := Lib.hid hu; have HU' := Lib.hid hu'
        clear hu hu'
        go_upto_region 6 with (fail)
        refine wp_region_quiet_tail 8 (by kernel_rfl) (by kernel_rfl) ?_
        simp only [List.take_succ_cons, List.take_zero, List.drop_succ_cons, List.drop_zero]
        repeat (first | go_big_quiet_step (fail) | quiet_step (fail))
        refine wpQuiet_nil ?_
        intro _ hw'
        obtain ⟨nq, hw''⟩ := hw'
        subst hw''
        have hq := Lib.hid (requal_any (HU.out.keeps (Qt.drewN wr nq).keeps) (HU'.out.keeps (Qt.drewN wr nq).keeps))
        by_cases e : ls.getD i [] = ls'.getD i []
        · rw [decide_eq_true e] at hq
          have HE2 := Lib.hid e
          clear e
          go_wp2_with (go_at_call 9; refine hq.out.mono ?_; rintro e W2 ⟨rfl, rfl⟩)
          go_roundw
          case rel =>
            refine ⟨i + 1, by omega, by go_num, Lib.hid (HK.out.trans (Qt.drewN wr nq).keeps), Lib.hid fun j hj => ?_⟩
            by_cases hji : j = i
            · subst hji; exact HE2.out
            · exact HE.out j (by omega)
          case measure => simp [intOf]; omega
        · rw [decide_eq_false e] at hq
          have hne : R = false := by rw [HR.out]; exact decide_eq_false (fun h => e (by rw [h]))
          subst hne
          clear e
          go_wp2_with (go_at_call 9; refine hq.out.mono ?_; rintro e W2 ⟨rfl, rfl⟩)
          go_ret
          exact ⟨by first | rfl | exact ret_bool (by simp), HK.out.trans (Qt.drewN wr nq).keeps⟩
      · have hall : R = true := by
          rw [HR.out]
          refine decide_eq_true (List.ext_getElem HLEN.out fun j h1 h2 => ?_)
          have := HE.out j (by omega)
          simpa [List.getD, h1, h2] using this
        subst hall
        go_wp2
        go_ret
        exact ⟨by first | rfl | exact ret_bool (by simp), HK.out⟩
instance : DecidableEq InD := fun a b => decidable_of_iff (a.hash = b.hash ∧ a.index = b.index ∧ a.script = b.script ∧ a.seq = b.seq ∧ a.wit = b.wit) (by cases a; cases b; simp)
instance : DecidableEq OutD := fun a b => decidable_of_iff (a.value = b.value ∧ a.script = b.script) (by cases a; cases b; simp)
instance : DecidableEq TxD := fun a b => decidable_of_iff (a.ver = b.ver ∧ a.ins = b.ins ∧ a.outs = b.outs ∧ a.lock = b.lock) (by cases a; cases b; simp)
theorem InD.eq_iff (a b : InD) : a = b ↔ (a.hash = b.hash ∧ a.index = b.index) ∧ a.seq = b.seq ∧ a.script = b.script ∧ a.wit = b.wit := by
  cases a; cases b; simp only [InD.mk.injEq]; exact ⟨fun ⟨a, b, c, e, f⟩ => ⟨⟨a, b⟩, e, c, f⟩, fun ⟨⟨a, b⟩, e, c, f⟩ => ⟨a, b, c, e, f⟩⟩
theorem OutD.eq_iff (a b : OutD) : a = b ↔ a.value = b.value ∧ a.script = b.script := by cases a; cases b; simp
theorem TxD.eq_iff (a b : TxD) : a = b ↔ a.ver = b.ver ∧ a.lock = b.lock ∧ a.ins = b.ins ∧ a.outs = b.outs := by
  cases a; cases b; simp only [TxD.mk.injEq]; exact ⟨fun ⟨a, b, c, e⟩ => ⟨a, e, b, c⟩, fun ⟨a, e, b, c⟩ => ⟨a, b, c, e⟩⟩
theorem wpList_neq_at {P : Program} {ops : Array Oper} {rest : List Oper} {o : Oper} {a : Act} {w : World} {Q : Exit → Act → World → Prop} (hw : Region.wanted o (yielded ops a.tmps) = true) (t t' : TypeId) (x y : Operand) (ho : o.op = .binOp .neq t x y t') (A B : Array Value) (hx : a.eval x = .agg A) (hy : a.eval y = .agg B) (r : Bool)
    (hE : ∀ W, (Op.equalIn 10000 t (.agg A) (.agg B)).run P W = .ok r W) (hm : P.eqGuardType P.depth t = false) (h : wpList P ops Q rest (a.put o.dst (.bool (!r))) w) : wpList P ops Q (o :: rest) a w :=
  BigFrame.wpList_want hw fun _ hK => by
    have h2 : (execOp a.eval o).run P w = .ok (.value (.bool (!r))) w := by
      unfold execOp
      simp only [ho, hx, hy]
      simp only [Sem.run_bind, Sem.run_pure, run_eqGuard_agg _ _ _ _ _ _ _ hm, run_neq_struct, hE, Result.andThen_ok]
    unfold Oper.wp
    rw [h2]
    exact hK _ _ h
theorem list_eq_upto {α : Type} {l m : List α} (hlen : l.length = m.length) (h : ∀ i, i < l.length → l[i]? = m[i]?) : l = m :=
  List.ext_getElem? fun i => by
    by_cases hi : i < l.length
    · exact h i hi
    · rw [List.getElem?_eq_none (by omega), List.getElem?_eq_none (by omega)]
set_option maxRecDepth 100000 in
set_option maxHeartbeats 8000000 in
theorem rsame_any {S T R S' T' R' : Nat → Prop} (d e : TxD) (iv ov iv' ov' : Value) (w : World) (h : RTx S T R w iv ov d) (h' : RTx S' T' R' w iv' ov' e) :
    Calls Tryz.prog 44 #[.agg #[.int .i32 d.ver, iv, ov, .int .u32 d.lock], .agg #[.int .i32 e.ver, iv', ov', .int .u32 e.lock]] w fun r w' => r = .returned (.bool (decide (d = e))) ∧ Keeps w w' := by
  have HI := Lib.hid h.ins; have HO := Lib.hid h.outs
  have HI' := Lib.hid h'.ins; have HO' := Lib.hid h'.outs
  obtain ⟨ia, ic, rfl, _, hicm, -⟩ := h.ins.any
  obtain ⟨oa, oc, rfl, _, hocm, -⟩ := h.outs.any
  obtain ⟨ia', ic', rfl, _, hicm', -⟩ := h'.ins.any
  obtain ⟨oa', oc', rfl, _, hocm', -⟩ := h'.outs.any
  have hins : d.ins.length * 96 ≤ 140737488355328 := by obtain ⟨_, _, h⟩ := h.ins; exact h.small
  have hons : d.outs.length * 32 ≤ 140737488355328 := by obtain ⟨_, _, h⟩ := h.outs; exact h.small
  have hins' : e.ins.length * 96 ≤ 140737488355328 := by obtain ⟨_, _, h⟩ := h'.ins; exact h.small
  have hons' : e.outs.length * 32 ≤ 140737488355328 := by obtain ⟨_, _, h⟩ := h'.outs; exact h.small
  clear h h'
  obtain ⟨RR, hRR⟩ : ∃ RR : Bool, RR = decide (d = e) := ⟨_, rfl⟩
  rw [← hRR]
  have HRR := Lib.hid hRR
  clear hRR
  by_cases hall : d.ver = e.ver ∧ d.lock = e.lock ∧ d.ins.length = e.ins.length ∧ d.outs.length = e.outs.length
  rotate_left
  · have hr : RR = false := by rw [HRR.out]; exact decide_eq_false (fun h => hall (by rw [h]; exact ⟨rfl, rfl, rfl, rfl⟩))
    subst hr
    have hsp : (¬ d.ver = e.ver) ∨ (d.ver = e.ver ∧ ¬ d.lock = e.lock) ∨ (d.ver = e.ver ∧ d.lock = e.lock ∧ ¬ d.ins.length = e.ins.length) ∨ (d.ver = e.ver ∧ d.lock = e.lock ∧ d.ins.length = e.ins.length ∧ ¬ d.outs.length = e.outs.length) := by
      by_cases h1 : d.ver = e.ver
      · by_cases h2 : d.lock = e.lock
        · by_cases h3 : d.ins.length = e.ins.length
          · exact .inr (.inr (.inr ⟨h1, h2, h3, fun h4 => hall ⟨h1, h2, h3, h4⟩⟩))
          · exact .inr (.inr (.inl ⟨h1, h2, h3⟩))
        · exact .inr (.inl ⟨h1, h2⟩)
      · exact .inl h1
    clear hall
    rcases hsp with h1 | ⟨h1, h2⟩ | ⟨h1, h2, h3⟩ | ⟨h1, h2, h3, h4⟩
    all_goals
      first | (have z1 : (d.ver != e.ver) = false := by rw [bne_eq_false_iff_eq]; exact h1) | (have z1 : (d.ver != e.ver) = true := by rw [bne_iff_ne]; exact h1)
      try (first | (have z2 : (d.lock != e.lock) = false := by rw [bne_eq_false_iff_eq]; exact h2) | (have z2 : (d.lock != e.lock) = true := by rw [bne_iff_ne]; exact h2))
      try (first | (have z3 : ((d.ins.length : Int) != e.ins.length) = false := by rw [bne_eq_false_iff_eq]; omega) | (have z3 : ((d.ins.length : Int) != e.ins.length) = true := by rw [bne_iff_ne]; omega))
      try (have z4 : ((d.outs.length : Int) != e.outs.length) = true := by rw [bne_iff_ne]; omega)
      clear h1
      try clear h2
      try clear h3
      try clear h4
      go_enter Tryz.func44, Tryz.ntmps44
      go_upto_region 1 with (fail)
      refine wp_rows2 (fun W0 hk hr1 hr2 hs => ?_)
      simp only at hr1 hr2
      obtain ⟨b0, b1, b2, b3⟩ := hr1.cell4
      obtain ⟨c0, c1, c2, c3⟩ := hr2.cell4
      have HK := Lib.hid hk
      clear hk hr1 hr2 hs
      go_wp2
      go_ret
      exact ⟨rfl, HK.out⟩
  obtain ⟨h1, h2, h3, h4⟩ := hall
  have z1 : (d.ver != e.ver) = false := by rw [bne_eq_false_iff_eq]; exact h1
  have z2 : (d.lock != e.lock) = false := by rw [bne_eq_false_iff_eq]; exact h2
  have z3 : ((d.ins.length : Int) != e.ins.length) = false := by rw [bne_eq_false_iff_eq]; omega
  have z4 : ((d.outs.length : Int) != e.outs.length) = false := by rw [bne_eq_false_iff_eq]; omega
  have hiff : RR = true ↔ d.ins = e.ins ∧ d.outs = e.outs := by
    rw [HRR.out, decide_eq_true_iff, TxD.eq_iff]
    exact ⟨fun h => h.2.2, fun h => ⟨h1, h2, h⟩⟩
  have HIFF := Lib.hid hiff; have HL3 := Lib.hid h3; have HL4 := Lib.hid h4
  clear h1 h2 h3 h4 hiff HRR
  go_enter Tryz.func44, Tryz.ntmps44
  go_upto_region 1 with (fail)
  refine wp_rows2 (fun W0 hk hr1 hr2 hs => ?_)
  simp only at hr1 hr2
  obtain ⟨b0, b1, b2, b3⟩ := hr1.cell4
  obtain ⟨c0, c1, c2, c3⟩ := hr2.cell4
  have HK := Lib.hid hk; have HR1 := Lib.hid hr1; have HR2 := Lib.hid hr2
  clear hk hr1 hr2 hs
  generalize w.heap.size = p at *
  go_upto_region 3 with (fail)
  clear z1 z2 z3 z4
  clear b0 b2 b3 c0 c2 c3
  go_wp2
  go_loopw [5] (fun c wr => ∃ i : Nat, i ≤ d.ins.length ∧ c = .int .i64 i ∧ Hid (Keeps W0 wr) ∧ Hid (∀ j, j < i → d.ins[j]? = e.ins[j]?)) (fun c _ => (d.ins.length - intOf c).toNat)
  case atStart => exact ⟨0, by omega, rfl, Lib.hid (Keeps.refl _), Lib.hid (fun j hj => by omega)⟩
  case round =>
    obtain ⟨i, hi, rfl, HKR, HE⟩ := hrel
    clear b1 c1
    obtain ⟨b0, b1, b2, b3⟩ := (HR1.out.keeps HKR.out).cell4
    obtain ⟨c0, c1, c2, c3⟩ := (HR2.out.keeps HKR.out).cell4
    clear b0 b3 c0 c3
    by_cases hlt : i < d.ins.length
    · clear b2 c2
      obtain ⟨g, off, sv, wv, x, rfl, hg, hdx, hrow, hrin⟩ := (HI.out.keeps (HK.out.trans HKR.out)).at i hlt
      have hlt' : i < e.ins.length := by rw [← HL3.out]; exact hlt
      obtain ⟨g', off', sv', wv', y, rfl, hg', hdy, hrow', hrin'⟩ := (HI'.out.keeps (HK.out.trans HKR.out)).at i hlt'
      obtain ⟨sa, sc, rfl, _⟩ := hrin.script.any
      obtain ⟨wa, wc, rfl, _⟩ := hrin.wit.any
      obtain ⟨sa', sc', rfl, _⟩ := hrin'.script.any
      obtain ⟨wa', wc', rfl, _⟩ := hrin'.wit.any
      have HROW := Lib.hid hrow; have HROW' := Lib.hid hrow'; have HRIN := Lib.hid hrin; have HRIN' := Lib.hid hrin'; have HDX := Lib.hid hdx; have HDY := Lib.hid hdy
      have HHL := Lib.hid hrin.ok.hashLen; have HHL' := Lib.hid hrin'.ok.hashLen
      have HE1 := Lib.hid (fun W => pt_equal W x.hash y.hash x.index y.index hrin.ok.hashLen hrin.ok.hash hrin.ok.index hrin'.ok.hashLen hrin'.ok.hash hrin'.ok.index)
      clear hrow hrow' hrin hrin' hdx hdy
      go_upto_region 7 with (first | ((with_reducible refine gate_load 100 (.tmp 49) ?_); refine wpList_load_at rfl 100 (.tmp 49) rfl g (off + i * 36) rfl _ _ HROW.out Tryz.underlying100 rfl (sz_in _ _ _ HHL.out) ?_) | ((with_reducible refine gate_store 100 (.tmp 6) (.tmp 50) ?_); refine wpList_store_row rfl 100 (.tmp 6) (.tmp 50) rfl _ 0 rfl zeroIn (inCells x _ _) rfl (Row.new _ _ _ rfl) (by rw [inCells_length _ _ _ HHL.out]; rfl) (sz_in _ _ _ HHL.out) (inCells_one _ _ _ rfl rfl) ?_; intro W5 hr5 hc5; have HR5 := Lib.hid hr5; have HC5 := Lib.hid hc5; clear hr5 hc5))
      have HK5 := Lib.hid (keeps_chg (keeps_alloc (Keeps.refl _) _) HC5.out (Nat.le_refl _))
      obtain ⟨c0, c1, c2, c3⟩ := ((HR2.out.keeps HKR.out).keeps HK5.out).cell4
      clear b1 c0 c2 c3 HC5
      obtain ⟨q, hq⟩ : ∃ q, q = wr.heap.size := ⟨_, rfl⟩
      rw [← hq] at HR5 ⊢
      clear hq
      go_upto_region 8 with (first | ((with_reducible refine gate_load 100 (.tmp 54) ?_); refine wpList_load_at rfl 100 (.tmp 54) rfl g' (off' + i * 36) rfl _ _ (HROW'.out.keeps HK5.out) Tryz.underlying100 rfl (sz_in _ _ _ HHL'.out) ?_) | ((with_reducible refine gate_store 100 (.tmp 7) (.tmp 55) ?_); refine wpList_store_row rfl 100 (.tmp 7) (.tmp 55) rfl _ 0 rfl zeroIn (inCells y _ _) rfl (Row.new _ _ _ rfl) (by rw [inCells_length _ _ _ HHL'.out]; rfl) (sz_in _ _ _ HHL'.out) (inCells_one _ _ _ rfl rfl) ?_; intro W6 hr6 hc6; have HR6 := Lib.hid hr6; have HC6 := Lib.hid hc6; clear hr6 hc6))
      have hk56 : Keeps W5 W6 := keeps_chg (keeps_alloc (Keeps.refl _) _) HC6.out (Nat.le_refl _)
      have HK6 := Lib.hid (HK5.out.trans hk56)
      have HR5' := Lib.hid (HR5.out.keeps hk56)
      obtain ⟨q', hq'⟩ : ∃ q, q = W5.heap.size := ⟨_, rfl⟩
      rw [← hq'] at HR6 ⊢
      clear hq' hk56 HC6 c1 HROW HROW' HR5 HK5
      have hF : ∀ W, Keeps W6 W → W.cell? ⟨q, 33, none⟩ = some (.slice sa x.script.length sc) ∧ W.cell? ⟨q, 34, none⟩ = some (.int .u32 x.seq) ∧ W.cell? ⟨q, 35, none⟩ = some (.slice wa x.wit.length wc) ∧ W.cell? ⟨q', 33, none⟩ = some (.slice sa' y.script.length sc') ∧ W.cell? ⟨q', 34, none⟩ = some (.int .u32 y.seq) ∧ W.cell? ⟨q', 35, none⟩ = some (.slice wa' y.wit.length wc') := fun W hk => by
        obtain ⟨_, h1, h2, h3⟩ := at_index (HR5'.out.keeps hk) HHL.out
        obtain ⟨_, h4, h5, h6⟩ := at_index (HR6.out.keeps hk) HHL'.out
        simp only [Nat.zero_add] at h1 h2 h3 h4 h5 h6
        exact ⟨h1, h2, h3, h4, h5, h6⟩
      have HF := Lib.hid hF
      have HP1 := Lib.hid (first_pt HR5'.out HHL.out)
      have HP2 := Lib.hid (first_pt HR6.out HHL'.out)
      have HQ3 := Lib.hid (fun W (hk : Keeps W6 W) => requal_any (HRIN.out.script.keeps (HK6.out.trans hk)) (HRIN'.out.script.keeps (HK6.out.trans hk)))
      have HQ4 := Lib.hid (fun W (hk : Keeps W6 W) => rsameL_any (HRIN.out.wit.keeps (HK6.out.trans hk)) (HRIN'.out.wit.keeps (HK6.out.trans hk)))
      clear hF HR5' HR6
      obtain ⟨f1, f2, f3, f4, f5, f6⟩ := HF.out _ (Keeps.refl _)
      obtain ⟨B1, hB1⟩ : ∃ b, b = decide (x.hash = y.hash ∧ x.index = y.index) := ⟨_, rfl⟩
      obtain ⟨B3, hB3⟩ : ∃ b, b = decide (x.script = y.script) := ⟨_, rfl⟩
      obtain ⟨B4, hB4⟩ : ∃ b, b = decide (x.wit = y.wit) := ⟨_, rfl⟩
      rw [← hB1] at HE1
      rw [← hB3] at HQ3
      rw [← hB4] at HQ4
      have hxy : x = y ↔ (B1 = true ∧ x.seq = y.seq ∧ B3 = true ∧ B4 = true) := by
        rw [InD.eq_iff, hB1, hB3, hB4, decide_eq_true_iff, decide_eq_true_iff, decide_eq_true_iff]
      have hne : x ≠ y → RR = false := fun hn => by
        cases hr : RR with
        | false => rfl
        | true =>
          have h := (HIFF.out.1 hr).1
          rw [← h, HDX.out] at HDY
          exact absurd (Option.some.inj HDY.out) hn
      have HXY := Lib.hid hxy; have HNE := Lib.hid hne
      clear hxy hne hB1 hB3 hB4
      have hbad : (B1 = true ∧ x.seq = y.seq ∧ B3 = true ∧ B4 = true) ∨ (B1 = false) ∨ (B1 = true ∧ ¬ x.seq = y.seq) ∨ (B1 = true ∧ x.seq = y.seq ∧ B3 = false) ∨ (B1 = true ∧ x.seq = y.seq ∧ B3 = true ∧ B4 = false) := by
        cases B1 <;> cases B3 <;> cases B4 <;> simp <;> omega
      rcases hbad with ⟨rfl, hs, rfl, rfl⟩ | rfl | ⟨rfl, hs⟩ | ⟨rfl, hs, rfl⟩ | ⟨rfl, hs, rfl, rfl⟩
      · have hxe : x = y := HXY.out.2 ⟨rfl, hs, rfl, rfl⟩
        have z : (x.seq != y.seq) = false := by rw [bne_eq_false_iff_eq]; exact hs
        have HXE := Lib.hid hxe
        clear hs hxe HXY HNE
        go_wp2_with (first | ((with_reducible refine gate_load 97 (.tmp 56) ?_); refine wpList_load_on (by kernel_rfl) 97 (.tmp 56) rfl q 0 rfl _ _ HP1.out Tryz.underlying97 rfl (sz_pt _ _ HHL.out) ?_) | ((with_reducible refine gate_load 97 (.tmp 58) ?_); refine wpList_load_on (by kernel_rfl) 97 (.tmp 58) rfl q' 0 rfl _ _ HP2.out Tryz.underlying97 rfl (sz_pt _ _ HHL'.out) ?_) | ((with_reducible refine gate_bin .neq 97 97 (.tmp 57) (.tmp 59) ?_); refine wpList_neq_at (by kernel_rfl) 97 97 (.tmp 57) (.tmp 59) rfl _ _ rfl rfl _ HE1.out (by kernel_rfl) ?_) | (go_at_call 9; refine (HQ3.out _ (Keeps.refl _)).mono ?_; rintro r7 W7 ⟨rfl, rfl⟩) | (go_at_call 75; refine (HQ4.out _ (Keeps.refl _)).mono ?_; rintro r7 W7 ⟨rfl, hk7⟩; have HK7 := Lib.hid hk7; clear hk7))
        go_roundw
        case rel =>
          refine ⟨i + 1, by omega, by go_num, Lib.hid (HKR.out.trans (HK6.out.trans HK7.out)), Lib.hid fun j hj => ?_⟩
          by_cases hji : j = i
          · subst hji; rw [HDX.out, HDY.out, HXE.out]
          · exact HE.out j (by omega)
        case measure => simp [intOf]; omega
      all_goals
        have hr : RR = false := HNE.out (fun h => by
          obtain ⟨k1, k2, k3, k4⟩ := HXY.out.1 h
          first | exact absurd k1 (by decide) | exact absurd k2 hs | exact absurd k3 (by decide) | exact absurd k4 (by decide))
        subst hr
        try (first | (have z : (x.seq != y.seq) = false := by rw [bne_eq_false_iff_eq]; exact hs) | (have z : (x.seq != y.seq) = true := by rw [bne_iff_ne]; exact hs))
        try clear hs
        clear HXY HNE HIFF HE
        go_wp2_with (first | ((with_reducible refine gate_load 97 (.tmp 56) ?_); refine wpList_load_on (by kernel_rfl) 97 (.tmp 56) rfl q 0 rfl _ _ HP1.out Tryz.underlying97 rfl (sz_pt _ _ HHL.out) ?_) | ((with_reducible refine gate_load 97 (.tmp 58) ?_); refine wpList_load_on (by kernel_rfl) 97 (.tmp 58) rfl q' 0 rfl _ _ HP2.out Tryz.underlying97 rfl (sz_pt _ _ HHL'.out) ?_) | ((with_reducible refine gate_bin .neq 97 97 (.tmp 57) (.tmp 59) ?_); refine wpList_neq_at (by kernel_rfl) 97 97 (.tmp 57) (.tmp 59) rfl _ _ rfl rfl _ HE1.out (by kernel_rfl) ?_) | (go_at_call 9; refine (HQ3.out _ (Keeps.refl _)).mono ?_; rintro r7 W7 ⟨rfl, rfl⟩) | (go_at_call 75; refine (HQ4.out _ (Keeps.refl _)).mono ?_; rintro r7 W7 ⟨rfl, hk7⟩; have HK7 := Lib.hid hk7; clear hk7))
        go_ret
        first | exact ⟨rfl, HK.out.trans (HKR.out.trans HK6.out)⟩ | exact ⟨rfl, HK.out.trans (HKR.out.trans (HK6.out.trans HK7.out))⟩
    · obtain rfl : i = d.ins.length := by omega
      have hie : d.ins = e.ins := list_eq_upto HL3.out HE.out
      have hiff2 : RR = true ↔ d.outs = e.outs := ⟨fun h => (HIFF.out.1 h).2, fun h => HIFF.out.2 ⟨hie, h⟩⟩
      have HIF2 := Lib.hid hiff2
      clear HIFF HE hie hiff2
      generalize wr = wA at *
      go_wp2
      go_loopw [8] (fun c wr => ∃ i : Nat, i ≤ d.outs.length ∧ c = .int .i64 i ∧ Hid (Keeps wA wr) ∧ Hid (∀ j, j < i → d.outs[j]? = e.outs[j]?)) (fun c _ => (d.outs.length - intOf c).toNat)
      case atStart => exact ⟨0, by omega, rfl, Lib.hid (Keeps.refl _), Lib.hid (fun j hj => by omega)⟩
      case round =>
        obtain ⟨i, hi, rfl, HKS, HE⟩ := hrel
        clear b1 c1 b2 c2
        obtain ⟨b0, b1, b2, b3⟩ := ((HR1.out.keeps HKR.out).keeps HKS.out).cell4
        obtain ⟨c0, c1, c2, c3⟩ := ((HR2.out.keeps HKR.out).keeps HKS.out).cell4
        clear b0 b1 b3 c0 c1 c3
        have HKW := Lib.hid (HK.out.trans (HKR.out.trans HKS.out))
        by_cases hlt : i < d.outs.length
        · obtain ⟨g, off, sv, x, rfl, hg, hdx, hrow, hrb, -⟩ := (HO.out.keeps HKW.out).at i hlt
          have hlt' : i < e.outs.length := by rw [← HL4.out]; exact hlt
          obtain ⟨g', off', sv', y, rfl, hg', hdy, hrow', hrb', -⟩ := (HO'.out.keeps HKW.out).at i hlt'
          obtain ⟨e1, e2⟩ := at_value hrow
          obtain ⟨e3, e4⟩ := at_value hrow'
          obtain ⟨sa, sc, rfl, _⟩ := hrb.any
          obtain ⟨sa', sc', rfl, _⟩ := hrb'.any
          have HDX := Lib.hid hdx; have HDY := Lib.hid hdy
          have HQ := Lib.hid (fun W (hk : Keeps wr W) => requal_any (hrb.keeps hk) (hrb'.keeps hk))
          have hne : x ≠ y → RR = false := fun hn => by
            cases hr : RR with
            | false => rfl
            | true =>
              have h := HIF2.out.1 hr
              rw [← h, HDX.out] at HDY
              exact absurd (Option.some.inj HDY.out) hn
          have HNE := Lib.hid hne
          clear hrow hrow' hrb hrb' hdx hdy hne
          have hsp : (¬ x.value = y.value) ∨ (x.value = y.value ∧ ¬ x.script = y.script) ∨ (x.value = y.value ∧ x.script = y.script) := by
            by_cases h1 : x.value = y.value
            · by_cases h2 : x.script = y.script
              · exact .inr (.inr ⟨h1, h2⟩)
              · exact .inr (.inl ⟨h1, h2⟩)
            · exact .inl h1
          rcases hsp with h1 | ⟨h1, h2⟩ | ⟨h1, h2⟩
          · have hr : RR = false := HNE.out (fun h => h1 (by rw [h]))
            subst hr
            have z : (x.value != y.value) = true := by rw [bne_iff_ne]; exact h1
            clear h1 HNE HIF2 HE HQ
            go_upto_region 13 with (fail)
            refine wp_region_quiet_tail 26 (by kernel_rfl) (by kernel_rfl) ?_
            simp only [List.take_succ_cons, List.take_zero, List.drop_succ_cons, List.drop_zero]
            repeat (first | go_big_quiet_skip | go_big_quiet_step (fail) | quiet_step (fail))
            refine wpQuiet_nil ?_
            intro _ hw'
            obtain ⟨nq, hw''⟩ := hw'
            subst hw''
            go_wp2
            go_ret
            exact ⟨rfl, HKW.out.trans (Qt.drewN wr nq).keeps⟩
          · have hr : RR = false := HNE.out (fun h => h2 (by rw [h]))
            subst hr
            have z : (x.value != y.value) = false := by rw [bne_eq_false_iff_eq]; exact h1
            rw [decide_eq_false h2] at HQ
            clear h1 h2 HNE HIF2 HE
            go_upto_region 13 with (fail)
            refine wp_region_quiet_tail 26 (by kernel_rfl) (by kernel_rfl) ?_
            simp only [List.take_succ_cons, List.take_zero, List.drop_succ_cons, List.drop_zero]
            repeat (first | go_big_quiet_skip | go_big_quiet_step (fail) | quiet_step (fail))
            refine wpQuiet_nil ?_
            intro _ hw'
            obtain ⟨nq, hw''⟩ := hw'
            subst hw''
            go_wp2_with (go_at_call 9; refine (HQ.out _ (Qt.drewN wr nq).keeps).mono ?_; rintro r7 W7 ⟨rfl, rfl⟩)
            go_ret
            exact ⟨rfl, HKW.out.trans (Qt.drewN wr nq).keeps⟩
          · have hxe : x = y := (OutD.eq_iff x y).2 ⟨h1, h2⟩
            have HXE := Lib.hid hxe
            have z : (x.value != y.value) = false := by rw [bne_eq_false_iff_eq]; exact h1
            rw [decide_eq_true h2] at HQ
            clear h1 h2 HNE hxe
            go_upto_region 13 with (fail)
            refine wp_region_quiet_tail 26 (by kernel_rfl) (by kernel_rfl) ?_
            simp only [List.take_succ_cons, List.take_zero, List.drop_succ_cons, List.drop_zero]
            repeat (first | go_big_quiet_skip | go_big_quiet_step (fail) | quiet_step (fail))
            refine wpQuiet_nil ?_
            intro _ hw'
            obtain ⟨nq, hw''⟩ := hw'
            subst hw''
            go_wp2_with (go_at_call 9; refine (HQ.out _ (Qt.drewN wr nq).keeps).mono ?_; rintro r7 W7 ⟨rfl, rfl⟩)
            go_roundw
            case rel =>
              refine ⟨i + 1, by omega, by go_num, Lib.hid (HKS.out.trans (Qt.drewN wr nq).keeps), Lib.hid fun j hj => ?_⟩
              by_cases hji : j = i
              · subst hji; rw [HDX.out, HDY.out, HXE.out]
              · exact HE.out j (by omega)
            case measure => simp [intOf]; omega
        · obtain rfl : i = d.outs.length := by omega
          have hr : RR = true := HIF2.out.2 (list_eq_upto HL4.out HE.out)
          subst hr
          clear HIF2 HE
          go_wp2
          go_ret
          exact ⟨rfl, HKW.out⟩
end Go.Proofs.YtcodpdpeklammaaGreatDoor
