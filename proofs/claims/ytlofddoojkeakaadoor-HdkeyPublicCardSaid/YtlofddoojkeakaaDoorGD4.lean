/- hash.step512: one block of 128 bytes is taken as SHA-512 says, whatever the state and the block; the state alone is written. | The reference's SHA-512 (strongboxref02.Sum512) is SHA-512. -/
import Derived.Test.YtlofddoojkeakaaDoorGD3
import Derived.Test.YtlofddoojkeakaaDoorGA0
import Derived.Laws.CopyOwn
import Derived.Deep.Cut
import Derived.Test.YtlofddoojkeakaaDoorGD2
namespace Go.Proofs.YtlofddoojkeakaaDoor.B64
set_option linter.unusedVariables false
set_option linter.unusedSimpArgs false
open Go Go.RowKit
theorem sbuf_row {w : World} {b : Nat} {l : List Int} {i : Nat} (h : Row w b 0 ((sbuf l i).map (Value.int .u64))) (hi : i < 80) (x : Int) (hx : x = if i < 16 then word l i else snext (sched l i) i) :
    Row (w.setCell ⟨b, i, none⟩ (.int .u64 x)) b 0 ((sbuf l (i + 1)).map (Value.int .u64)) := by
  have := h.setInt0 i (by rw [sbuf_length _ _ (by omega)]; exact hi) x
  rwa [sbuf_set l i hi x hx] at this
theorem sz_state : (Tryd.prog.info? 94).map (·.size) = some 8 := by kernel_rfl
theorem sz_words : (Tryd.prog.info? 95).map (·.size) = some 80 := by kernel_rfl
/-- a block that holds the eight words -/
def VB (w : World) (b : Nat) (T : TypeId) (s : St) : Prop := w.heap[b]? = some (.cells #[.int .u64 s.a, .int .u64 s.b, .int .u64 s.c, .int .u64 s.d, .int .u64 s.e, .int .u64 s.f, .int .u64 s.g, .int .u64 s.h] T (0, 0))
theorem VB.cells {w : World} {b : Nat} {T : TypeId} {s : St} (h : VB w b T s) : w.cell? ⟨b, 0, none⟩ = some (.int .u64 s.a) ∧ w.cell? ⟨b, 1, none⟩ = some (.int .u64 s.b) ∧ w.cell? ⟨b, 2, none⟩ = some (.int .u64 s.c) ∧ w.cell? ⟨b, 3, none⟩ = some (.int .u64 s.d)
    ∧ w.cell? ⟨b, 4, none⟩ = some (.int .u64 s.e) ∧ w.cell? ⟨b, 5, none⟩ = some (.int .u64 s.f) ∧ w.cell? ⟨b, 6, none⟩ = some (.int .u64 s.g) ∧ w.cell? ⟨b, 7, none⟩ = some (.int .u64 s.h) := by
  unfold VB at h
  simp [World.cell?, h]
theorem sz_u64 : (Tryd.prog.info? 54).map (·.size) = some 1 := by kernel_rfl
theorem VB.src {w : World} {b : Nat} {T : TypeId} {s : St} (h : VB w b T s) : ∀ (j : Nat) (v : Value), ([.int .u64 s.a, .int .u64 s.b, .int .u64 s.c, .int .u64 s.d, .int .u64 s.e, .int .u64 s.f, .int .u64 s.g] : List Value)[j]? = some v → w.cell? ((⟨b, 0, none⟩ : Addr).add j) = some v := by
  obtain ⟨h0, h1, h2, h3, h4, h5, h6, h7⟩ := h.cells
  intro j v hv
  have hadd : (⟨b, 0, none⟩ : Addr).add j = ⟨b, j, none⟩ := by unfold Addr.add; split <;> simp_all
  rw [hadd]
  rcases j with _ | _ | _ | _ | _ | _ | _ | j <;> simp at hv <;> subst hv <;> assumption
/-- the eight words moved on by one -/
def shifted (s : St) : Array Value := #[.int .u64 s.a, .int .u64 s.a, .int .u64 s.b, .int .u64 s.c, .int .u64 s.d, .int .u64 s.e, .int .u64 s.f, .int .u64 s.g]
theorem copy_shift {w : World} {ops : Array Oper} {rest : List Oper} {o : Oper} {a : Act} {Q : Exit → Act → World → Prop} (hgd : o.guard = none) (d sr : Operand)
    (ho : o.op = .call { callee := .builtin .copy, args := #[d, sr], argTypes := #[139, 139] }) (g : Nat) (c1 c2 : Nat)
    (hd : a.eval d = .slice (some ⟨g, 1, none⟩) 7 c1) (hs : a.eval sr = .slice (some ⟨g, 0, none⟩) 7 c2) (T : TypeId) (s : St) (hv : VB w g T s)
    (h : ∀ w', w'.heap[g]? = some (.cells (shifted s) T (0, 0)) → Chg (· = g) w w' → wpList Tryd.prog ops Q rest (a.put o.dst (.int .i64 7)) w') : wpList Tryd.prog ops Q (o :: rest) a w := by
  refine wpList_copy_own hgd d sr _ _ ho 54 Tryd.underlying139 sz_u64 g 1 7 c1 ⟨g, 0, none⟩ 7 c2 hd hs _ T hv _ rfl hv.src (by simp) ?_ ?_
  · intro v hv; simp at hv; rcases hv with rfl | rfl | rfl | rfl | rfl | rfl | rfl <;> rfl
  · refine h _ ?_ ⟨rfl, rfl, rfl, by simp [World.setRow], fun k _ hk => setRow_other _ _ _ _ hk⟩
    rw [setRow_heap _ _ _ _ _ _ hv]
    simp [shifted]
theorem shifted_cells {w : World} {g : Nat} {T : TypeId} {s : St} (h : w.heap[g]? = some (.cells (shifted s) T (0, 0))) :
    w.cell? ⟨g, 4, none⟩ = some (.int .u64 s.d) ∧ w.cell? ⟨g, 0, none⟩ = some (.int .u64 s.a) ∧ w.frozen? ⟨g, 4, none⟩ = false ∧ w.frozen? ⟨g, 0, none⟩ = false := by
  simp [World.cell?, World.frozen?, h, shifted]
theorem vb_after {w : World} {g : Nat} {T : TypeId} {s : St} (h : w.heap[g]? = some (.cells (shifted s) T (0, 0))) (x y : Int) :
    VB ((w.setCell ⟨g, 4, none⟩ (.int .u64 x)).setCell ⟨g, 0, none⟩ (.int .u64 y)) g T ⟨y, s.a, s.b, s.c, x, s.e, s.f, s.g⟩ := by
  unfold VB
  rw [heap_setCell_same _ _ _ _ _ _ (heap_setCell_same _ _ _ _ _ _ h)]
  simp [shifted]
theorem VB.row {w : World} {b : Nat} {T : TypeId} {s : St} (h : VB w b T s) : Row w b 0 (s.list.map (Value.int .u64)) := fun j v hv => by
  rw [Nat.zero_add]
  refine ⟨?_, frozen_of_row _ _ _ _ _ h⟩
  rw [cell_of_row _ _ _ _ _ _ h]
  simpa [St.list] using hv
/-- the first i sums, then what was there -/
def mixl (s t : St) (i : Nat) : List Int := (s.plus t).list.take i ++ s.list.drop i
theorem list_length (s : St) : s.list.length = 8 := rfl
theorem mixl_length (s t : St) (i : Nat) (h : i ≤ 8) : (mixl s t i).length = 8 := by simp [mixl, list_length]; omega
theorem mixl_getD (s t : St) (i : Nat) (h : i < 8) : (mixl s t i).getD i 0 = s.list.getD i 0 := by
  have : i = 0 ∨ i = 1 ∨ i = 2 ∨ i = 3 ∨ i = 4 ∨ i = 5 ∨ i = 6 ∨ i = 7 := by omega
  rcases this with rfl | rfl | rfl | rfl | rfl | rfl | rfl | rfl <;> rfl
theorem mixl_set (s t : St) (i : Nat) (h : i < 8) : (mixl s t i).set i ((s.list.getD i 0 + t.list.getD i 0) % 18446744073709551616) = mixl s t (i + 1) := by
  have : i = 0 ∨ i = 1 ∨ i = 2 ∨ i = 3 ∨ i = 4 ∨ i = 5 ∨ i = 6 ∨ i = 7 := by omega
  rcases this with rfl | rfl | rfl | rfl | rfl | rfl | rfl | rfl <;> rfl
theorem mixl_zero (s t : St) : mixl s t 0 = s.list := rfl
theorem mixl_full (s t : St) : mixl s t 8 = (s.plus t).list := rfl
theorem mix_row {w : World} {b o : Nat} {s t : St} {i : Nat} (h : Row w b o ((mixl s t i).map (Value.int .u64))) (hi : i < 8) :
    Row (w.setCell ⟨b, o + i, none⟩ (.int .u64 ((s.list.getD i 0 + t.list.getD i 0) % 18446744073709551616))) b o ((mixl s t (i + 1)).map (Value.int .u64)) := by
  have := h.setInt i (by rw [mixl_length _ _ _ (by omega)]; exact hi) ((s.list.getD i 0 + t.list.getD i 0) % 18446744073709551616)
  rwa [mixl_set _ _ _ hi] at this
theorem vb_round {w : World} {g : Nat} {T : TypeId} {s : St} (h : w.heap[g]? = some (.cells (shifted s) T (0, 0))) (k xx x y : Int) (hx : x = (s.round k xx).e) (hy : y = (s.round k xx).a) :
    VB ((w.setCell ⟨g, 4, none⟩ (.int .u64 x)).setCell ⟨g, 0, none⟩ (.int .u64 y)) g T (s.round k xx) := by
  subst hx hy; exact vb_after h _ _
theorem w64_wraps (n : Int) (h₀ : 0 ≤ n) (h₁ : n < 2 ^ 64) : IntKind.u64.wrap n = n := by rw [IntKind.wrap_u64]; omega
theorem u64_join (i : Nat) (x y : Int) (hx₀ : 0 ≤ x) (hx : x % 2 ^ i = 0) (hx₁ : x < 2 ^ 64) (hy₀ : 0 ≤ y) (hy : y < 2 ^ i) (hy₁ : y < 2 ^ 64) : bits .or .u64 x y = x + y :=
  bits_join .u64 64 (by decide) w64_wraps i x y hx₀ hx hx₁ hy₀ hy hy₁
/-- the words so far, one that is being made, and noughts -/
def wbuf (l : List Int) (t i : Nat) : List Int := (sbuf l t).set t (wpart l t i)
theorem wbuf_zero (l : List Int) (t : Nat) (ht : t < 80) : wbuf l t 0 = sbuf l t := by
  unfold wbuf sbuf
  rw [List.set_append_right _ _ (by rw [sched_length]; omega)]
  simp only [sched_length, Nat.sub_self]
  rw [show 80 - t = (79 - t) + 1 by omega, List.replicate_succ]
  rfl
theorem wbuf_set (l : List Int) (t i : Nat) : (wbuf l t i).set t (wpart l t (i + 1)) = wbuf l t (i + 1) := by
  unfold wbuf; rw [List.set_set]
theorem wbuf_full (l : List Int) (t : Nat) (ht : t < 16) : wbuf l t 8 = sbuf l (t + 1) := by
  unfold wbuf
  exact sbuf_set l t (by omega) _ (by rw [if_pos ht]; rfl)
theorem wbuf_length (l : List Int) (t i : Nat) (h : t ≤ 80) : (wbuf l t i).length = 80 := by unfold wbuf; rw [List.length_set, sbuf_length _ _ h]
theorem wbuf_getD (l : List Int) (t i : Nat) (h : t < 80) : (wbuf l t i).getD t 0 = wpart l t i := by
  unfold wbuf
  have : t < (sbuf l t).length := by rw [sbuf_length _ _ (by omega)]; exact h
  simp [List.getD, this]
set_option maxHeartbeats 2000000 in
set_option maxRecDepth 100000 in
theorem step_any (s : St) (hs : s.ok) (l : List Int) (hl : l.length = 128) (hb : Bytes l) (bs os bk bb ob cap : Nat) (hcap : 128 ≤ cap) (w : World)
    (hcs : Row w bs os (s.list.map (Value.int .u64))) (hck : Row w bk 0 (k512.map (Value.int .u64))) (hcb : Row w bb ob (l.map (Value.int .u8))) :
    Calls Tryd.prog 49 #[.pointer (some ⟨bs, os, none⟩), .pointer (some ⟨bk, 0, none⟩), .slice (some ⟨bb, ob, none⟩) 128 cap] w fun e w' => e = .returned (.tuple #[]) ∧ Chg (· = bs) w w' ∧ Row w' bs os ((compress s l).list.map (Value.int .u64)) ∧ Beside w w' bs os 8 := by
  have HCS := Lib.hid hcs; have HCK := Lib.hid hck; have HCB := Lib.hid hcb; have HB := Lib.hid hb
  clear hcs hck hcb hb
  go_enter Tryd.func49, Tryd.ntmps49
  go_wp2
  go_loopw [20] (fun c wr => ∃ i : Nat, i ≤ 80 ∧ c = .int .i64 i ∧ Keeps w wr ∧ w.heap.size < wr.heap.size ∧ Row wr w.heap.size 0 ((sbuf l i).map (Value.int .u64))) (fun c _ => (80 - intOf c).toNat)
  case atStart => exact ⟨0, by omega, rfl, (Keeps.refl w).alloc (Nat.le_refl _) _, by simp, Row.new _ _ _ (by simp only [sbuf, sched]; first | rfl | kernel_rfl)⟩
  case round =>
    obtain ⟨i, hi, rfl, hk, hsz, hr⟩ := hrel
    by_cases hlt : i < 80
    · by_cases h16 : i < 16
      · have hcb := HCB.out.keeps hk
        rw [← wbuf_zero l i (by omega)] at hr
        have HR := Lib.hid hr; have HK := Lib.hid hk; have HCBk := Lib.hid hcb
        clear hr hcb hk
        have hsl1 : (8 : Int) * i + 8 ≤ cap := by omega
        go_wp2
        go_loopw [33] (fun c wr2 => ∃ k : Nat, k ≤ 8 ∧ c = .int .i64 k ∧ Keeps w wr2 ∧ w.heap.size < wr2.heap.size ∧ Row wr2 w.heap.size 0 ((wbuf l i k).map (Value.int .u64))) (fun c _ => (8 - intOf c).toNat)
        case atStart => exact ⟨0, by omega, rfl, HK.out, hsz, HR.out⟩
        case round =>
          obtain ⟨k, hk8, rfl, hkk, hsz2, hrk⟩ := hrel
          by_cases hlt8 : k < 8
          · have hcb := HCB.out.keeps hkk
            have c0 := hcb.int (8 * i + k) (by omega)
            rw [← Nat.add_assoc] at c0
            have b0 := HB.out.getD (8 * i + k)
            have hd := hrk.int0 i (by rw [wbuf_length _ _ _ hi]; exact hlt)
            have hf := hrk.free0 i (by rw [List.length_map, wbuf_length _ _ _ hi]; exact hlt)
            rw [wbuf_getD _ _ _ hlt] at hd
            have hxr := wpart_range l i k
            have hst : wpart l i (k + 1) = (wpart l i k * 256 + l.getD (8 * i + k) 0) % 18446744073709551616 := rfl
            have hset := hrk.setInt0 i (by rw [wbuf_length _ _ _ hi]; exact hlt) (wpart l i (k + 1))
            rw [wbuf_set] at hset
            generalize l.getD (8 * i + k) 0 = y at *
            generalize wpart l i k = x at *
            obtain ⟨b00, b01⟩ := b0
            obtain ⟨x0, x1⟩ := hxr
            have hor : bits .or .u64 (IntKind.u64.wrap (x * 256)) y = x * 256 % 18446744073709551616 + y := (by rw [IntKind.wrap_u64]; exact u64_join 8 (x * 256 % 18446744073709551616) y (by omega) (by omega) (by omega) (by omega) (by omega) (by omega))
            have hst2 : wpart l i (k + 1) = x * 256 % 18446744073709551616 + y := by rw [hst]; omega
            have HST := Lib.hid hst2; have HSET := Lib.hid hset
            clear hst hst2 hset hcb hrk
            go_wp2
            go_roundw
            case rel => exact ⟨k + 1, by omega, by go_num, Below.setCell hkk (Nat.le_refl _) _, by simpa using hsz2, by rw [← HST.out]; exact HSET.out⟩
            case measure => simp [intOf]; omega
          · obtain rfl : k = 8 := by omega
            rw [wbuf_full l i h16] at hrk
            go_wp2
            go_roundw
            case rel => exact ⟨i + 1, by omega, by go_num, hkk, hsz2, hrk⟩
            case measure => simp [intOf]; omega
      · have hd := hr.int0 i (by rw [sbuf_length _ _ hi]; exact hlt)
        have hf := hr.free0 i (by simp [sbuf_length _ _ hi]; exact hlt)
        have c16 := hr.int0 (i - 16) (by rw [sbuf_length _ _ hi]; omega)
        have c7 := hr.int0 (i - 7) (by rw [sbuf_length _ _ hi]; omega)
        have c15 := hr.int0 (i - 15) (by rw [sbuf_length _ _ hi]; omega)
        have c2 := hr.int0 (i - 2) (by rw [sbuf_length _ _ hi]; omega)
        rw [sbuf_getD _ _ _ (by omega)] at c16 c7 c15 c2
        have w16 := (sched_words l i).getD (i - 16)
        have w7 := (sched_words l i).getD (i - 7)
        have w15 := (sched_words l i).getD (i - 15)
        have w2 := (sched_words l i).getD (i - 2)
        have HR := Lib.hid hr; clear hr
        have HW : Hid (snext (sched l i) i = ((sched l i).getD (i - 16) 0 + (sched l i).getD (i - 7) 0 + ssig0 ((sched l i).getD (i - 15) 0) + ssig1 ((sched l i).getD (i - 2) 0)) % 18446744073709551616) := Lib.hid rfl
        generalize (sched l i).getD (i - 16) 0 = y0 at *
        generalize (sched l i).getD (i - 7) 0 = y1 at *
        generalize (sched l i).getD (i - 15) 0 = y2 at *
        generalize (sched l i).getD (i - 2) 0 = y3 at *
        have W2 := w15
        have W3 := w2
        obtain ⟨b20, b21⟩ := w15
        obtain ⟨b30, b31⟩ := w2
        go_wp2
        go_quiet (fail)
        go_wp2
        refine wp_region_quiet_tail 29 (by kernel_rfl) (by kernel_rfl) ?_
        simp only [List.take_succ_cons, List.take_zero, List.drop_succ_cons, List.drop_zero]
        repeat (first | go_big_quiet_step (((go_at_call 72; first | exact s1 (right_any _ _ (by omega) (by omega) (by assumption) _) | exact s2 (right_any _ _ (by omega) (by omega) (by assumption) _) | exact q1 (right_any _ _ (by omega) (by omega) (by assumption) _) | exact q2 (right_any _ _ (by omega) (by omega) (by assumption) _)))) | quiet_step (((go_at_call 72; first | exact s1 (right_any _ _ (by omega) (by omega) (by assumption) _) | exact s2 (right_any _ _ (by omega) (by omega) (by assumption) _) | exact q1 (right_any _ _ (by omega) (by omega) (by assumption) _) | exact q2 (right_any _ _ (by omega) (by omega) (by assumption) _)))))
        refine wpQuiet_nil ?_
        intro _ hw'
        obtain ⟨nq, hw''⟩ := hw'
        subst hw''
        go_wp2
        go_roundw
        case rel => exact ⟨i + 1, by omega, by go_num, Below.setCell (hk.trans ((Qt.drewN wr _).keeps)) (Nat.le_refl _) _, by simpa using hsz, sbuf_row (HR.out.drewN _) hlt _ (by rw [if_neg h16, HW.out]; unfold ssig0 ssig1; simp only [IntKind.wrap_u64]; omega)⟩
        case measure => simp [intOf]; omega
    · obtain rfl : i = 80 := by omega
      rw [sbuf_full] at hr
      obtain ⟨w1, hw1⟩ : ∃ w1, w1 = wr := ⟨_, rfl⟩
      subst hw1
      have hcs : Row w1 bs os [.int .u64 s.a, .int .u64 s.b, .int .u64 s.c, .int .u64 s.d, .int .u64 s.e, .int .u64 s.f, .int .u64 s.g, .int .u64 s.h] := HCS.out.keeps hk
      have hck := HCK.out.keeps hk
      have hl80 : (sched l 80).length = 80 := sched_length l 80
      have hfin : (compress s l).list = (s.plus (rounds s (sched l 80) 80)).list := rfl
      have hww := sched_words l 80
      generalize sched l 80 = ws at *
      have z1 : (Tryd.prog.info? 94).map (·.size) = some ([.int .u64 s.a, .int .u64 s.b, .int .u64 s.c, .int .u64 s.d, .int .u64 s.e, .int .u64 s.f, .int .u64 s.g, .int .u64 s.h] : List Value).length := sz_state
      have z2 : (Tryd.prog.info? 95).map (·.size) = some (ws.map (Value.int .u64)).length := by rw [List.length_map, hl80]; exact sz_words
      have HL80 := Lib.hid hl80; have HR := Lib.hid hr; have HC := Lib.hid hcs; have HK := Lib.hid hck; have HF := Lib.hid hfin; have HWW := Lib.hid hww
      have Z1 := Lib.hid z1; have Z2 := Lib.hid z2; clear z1 z2 hl80 hr hcs hck hfin hww
      go_upto_region 13 with (fail)
      go_wp2_with (first | (refine wpList_load_at rfl 94 (.tmp 86) rfl bs os rfl _ _ (by first | exact HC.out | exact HC.out.alloc _) Tryd.underlying94 rfl Z1.out ?_) | (refine wpList_load_at rfl 95 (.tmp 6) rfl w.heap.size 0 rfl _ _ (by first | exact HR.out | exact HR.out.alloc _) Tryd.underlying95 rfl Z2.out ?_))
      go_loopw [89] (fun c wr => ∃ i : Nat, i ≤ 80 ∧ c = .int .i64 i ∧ Keeps w wr ∧ w1.heap.size < wr.heap.size ∧ VB wr w1.heap.size 94 (rounds s ws i)) (fun c _ => (80 - intOf c).toNat)
      case atStart => exact ⟨0, by omega, rfl, hk.trans ((Keeps.refl w1).alloc (Nat.le_refl _) _), by simp, by unfold VB; exact heap_alloc_new _ _⟩
      case round =>
        obtain ⟨i, hi, rfl, hk2, hsz2, hv⟩ := hrel
        by_cases hlt : i < 80
        · obtain ⟨v0, v1, v2, v3, v4, v5, v6, v7⟩ := hv.cells
          have hix : ∀ W : World, (Instr.index 95 (.agg (ws.map (Value.int .u64)).toArray) (.int .i64 (i : Int))).run Tryd.prog W = .ok (.int .u64 (ws.getD i 0)) W := fun W => run_index_ints W _ _ 80 _ ws i Tryd.underlying95 Tryd.underlying54 (by kernel_rfl) HL80.out hlt
          have hkc := (HCK.out.keeps hk2).int0 i (by rw [k512_length]; exact hlt)
          have hok := rounds_ok hs ws i
          have hwi := HWW.out.getD i
          have hkw := k512_words.getD i
          have hrd : rounds s ws (i + 1) = (rounds s ws i).round (k512.getD i 0) (ws.getD i 0) := rfl
          generalize k512.getD i 0 = kk at *
          generalize ws.getD i 0 = xx at *
          generalize rounds s ws i = r at *
          obtain ⟨ra, rb, rc, rd, re, rf, rg, rh⟩ := r
          have HV := Lib.hid hv; have HRD := Lib.hid hrd; clear hv hrd
          obtain ⟨o0, o1, o2, o3, o4, o5, o6, o7⟩ := hok
          simp only at v0 v1 v2 v3 v4 v5 v6 v7 o0 o1 o2 o3 o4 o5 o6 o7
          have a0 := o0.1; have a1 := o0.2; have e0 := o4.1; have e1 := o4.2
          go_wp2
          go_quiet (fail)
          go_wp2
          go_quiet (((go_at_call 72; first | exact s1 (right_any _ _ (by omega) (by omega) (by assumption) _) | exact s2 (right_any _ _ (by omega) (by omega) (by assumption) _) | exact q1 (right_any _ _ (by omega) (by omega) (by assumption) _) | exact q2 (right_any _ _ (by omega) (by omega) (by assumption) _))))
          go_wp2
          go_quiet (((go_at_call 72; first | exact s1 (right_any _ _ (by omega) (by omega) (by assumption) _) | exact s2 (right_any _ _ (by omega) (by omega) (by assumption) _) | exact q1 (right_any _ _ (by omega) (by omega) (by assumption) _) | exact q2 (right_any _ _ (by omega) (by omega) (by assumption) _))))
          go_wp2
          refine wp_region_quiet_tail 2 (by kernel_rfl) (by kernel_rfl) ?_
          simp only [List.take_succ_cons, List.take_zero, List.drop_succ_cons, List.drop_zero]
          repeat (first | go_big_quiet_step (fail) | quiet_step (fail))
          refine wpQuiet_nil ?_
          intro _ hw'
          obtain ⟨nq, hw''⟩ := hw'
          subst hw''
          go_wp2_with (refine copy_shift rfl (.tmp 151) (.tmp 152) rfl w1.heap.size 7 8 rfl rfl _ ⟨ra, rb, rc, rd, re, rf, rg, rh⟩ HV.out ?_; intro w3 hv3 hc3; obtain ⟨x4, x0, f4, f0⟩ := shifted_cells hv3; have HV3 := Lib.hid hv3; have HC3 := Lib.hid hc3; clear hv3 hc3)
          go_roundw
          case rel =>
            refine ⟨i + 1, by omega, by go_num, ?_, ?_, ?_⟩
            · exact (((((hk2.trans (Qt.keeps (by repeat (first | exact Qt.refl _ | exact Qt.drewN _ _ | refine Qt.trans ?_ (Qt.drewN _ _))))).chg (· = w1.heap.size)).trans HC3.out).setCell (.inr rfl) _).setCell (.inr rfl) _).below (Nat.le_refl _) (fun k hk' e => by omega)
            · have := HC3.out.size; simp at this ⊢; omega
            · rw [HRD.out]
              refine vb_round HV3.out kk xx _ _ ?_ ?_
              · simp only [St.round, tone, bsig1, chf, IntKind.wrap_u64]; omega
              · simp only [St.round, tone, ttwo, bsig1, bsig0, chf, majf, IntKind.wrap_u64]; omega
          case measure => simp [intOf]; omega
        · obtain rfl : i = 80 := by omega
          obtain ⟨w2, hw2⟩ : ∃ w2, w2 = wr := ⟨_, rfl⟩
          subst hw2
          have hbs : bs < w.heap.size := HCS.out.lt (by simp [St.list])
          have hne : bs ≠ w1.heap.size := by have := hk.size; omega
          have hrow := HCS.out.keeps hk2
          have hvr := hv.row
          generalize rounds s ws 80 = r at *
          rw [← mixl_zero s r] at hrow
          have HRW := Lib.hid hrow; have HV := Lib.hid hvr
          clear hrow hv hvr
          go_wp2
          go_loopw [164] (fun c wr => ∃ i : Nat, i ≤ 8 ∧ c = .int .i64 i ∧ Chg (· = bs) w wr ∧ Row wr bs os ((mixl s r i).map (Value.int .u64)) ∧ Row wr w1.heap.size 0 (r.list.map (Value.int .u64)) ∧ Hid (Beside w wr bs os 8)) (fun c _ => (8 - intOf c).toNat)
          case atStart => exact ⟨0, by omega, rfl, hk2.chg _, HRW.out, HV.out, Lib.hid (Beside.keeps hk2 hbs _ _)⟩
          case round =>
            obtain ⟨i, hi, rfl, hch, hr1, hr2, HBS⟩ := hrel
            by_cases hlt : i < 8
            · have c1 := hr1.int i (by rw [mixl_length _ _ _ hi]; exact hlt)
              rw [mixl_getD _ _ _ hlt] at c1
              have f1 := hr1.free i (by rw [List.length_map, mixl_length _ _ _ hi]; exact hlt)
              have c2 := hr2.int0 i (by rw [list_length]; exact hlt)
              have R1 := Lib.hid hr1; have R2 := Lib.hid hr2; have HCH := Lib.hid hch; clear hr1 hr2 hch
              have HM := Lib.hid (fun (W : World) (hW : Row W bs os ((mixl s r i).map (Value.int .u64))) => mix_row hW hlt)
              generalize s.list.getD i 0 = x1 at *
              generalize r.list.getD i 0 = x2 at *
              go_wp2
              refine wp_region_quiet_tail 11 (by kernel_rfl) (by kernel_rfl) ?_
              simp only [List.take_succ_cons, List.take_zero, List.drop_succ_cons, List.drop_zero]
              repeat (first | go_big_quiet_step (fail) | quiet_step (fail))
              refine wpQuiet_nil ?_
              intro _ hw'
              obtain ⟨nq, hw''⟩ := hw'
              subst hw''
              go_wp2
              go_roundw
              case rel => exact ⟨i + 1, by omega, by go_num, (HCH.out.trans (Keeps.chg (Qt.keeps (by repeat (first | exact Qt.refl _ | exact Qt.drewN _ _ | refine Qt.trans ?_ (Qt.drewN _ _)))) _)).setCell (.inr rfl) _, HM.out _ (R1.out.drewN _), (R2.out.drewN _).other hne.symm _, Lib.hid (HBS.out.trans (Beside.trans (b := wr.drewN _) (Beside.of_block rfl _ _) (Beside.setCell hlt _)))⟩
              case measure => simp [intOf]; omega
            · obtain rfl : i = 8 := by omega
              rw [mixl_full] at hr1
              have HFF : Hid (Row wr bs os ((compress s l).list.map (Value.int .u64))) := by rw [HF.out]; exact hr1
              have HCH := Lib.hid hch
              clear hr1 hr2 hch
              go_wp2
              go_end0
              exact ⟨rfl, HCH.out, HFF.out, HBS.out⟩
theorem lowB_bytes (v : Int) (k : Nat) : Bytes (lowB v k) := by
  induction k with
  | zero => intro x hx; simp [lowB] at hx
  | succ k ih =>
    intro x hx
    rcases List.mem_append.1 hx with h | h
    · exact ih x h
    · rw [List.mem_singleton.1 h]; unfold Byte; omega
theorem fillL_bytes (size len n : Nat) (low : Bool) : Bytes (fillL size len n low) := by
  intro x hx
  simp only [fillL, List.mem_cons, List.mem_append, List.mem_replicate] at hx
  rcases hx with rfl | ⟨_, rfl⟩ | hx
  · unfold Byte; omega
  · unfold Byte; omega
  · cases low
    · exact lowB_bytes _ _ x (by simpa using hx)
    · exact lowB_bytes _ _ x (by simpa using hx)
/-- the bytes of the words, the greatest first -/
def outB (ws : List Int) : List Int := (List.range 64).map fun i => ws.getD (i / 8) 0 / 2 ^ (56 - 8 * (i % 8)) % 256
theorem outB_length (ws : List Int) : (outB ws).length = 64 := by simp [outB]
theorem outB_getD (s : St) (i : Nat) (hi : i < 64) : (outB s.list).getD i 0 = s.list.getD (i / 8) 0 / 2 ^ (56 - 8 * (i % 8)) % 256 := by
  simp [outB, List.getD, hi]
theorem outB_bytes (ws : List Int) : Bytes (outB ws) := by
  intro x hx
  obtain ⟨i, _, rfl⟩ := List.mem_map.1 hx
  unfold Byte; omega
def outR (s : St) (i : Nat) : List Int := (outB s.list).take i ++ List.replicate (64 - i) 0
theorem outR_zero (s : St) : outR s 0 = List.replicate 64 0 := rfl
theorem outR_full (s : St) : outR s 64 = outB s.list := by
  unfold outR
  rw [List.take_of_length_le (by rw [outB_length]; omega)]; simp
theorem outR_length (s : St) (i : Nat) (h : i ≤ 64) : (outR s i).length = 64 := by simp [outR, outB_length]; omega
theorem outR_set (s : St) (i : Nat) (h : i < 64) : (outR s i).set i (s.list.getD (i / 8) 0 / 2 ^ (56 - 8 * (i % 8)) % 256) = outR s (i + 1) := by
  rw [← outB_getD s i h]
  unfold outR
  rw [List.set_append_right _ _ (by simp [outB_length]; omega)]
  have e : i - ((outB s.list).take i).length = 0 := by simp [outB_length]; omega
  rw [e, show 64 - i = (64 - (i + 1)) + 1 by omega, List.replicate_succ, List.set_cons_zero]
  have hl : i < (outB s.list).length := by rw [outB_length]; exact h
  rw [List.take_succ_eq_append_getElem hl, List.append_assoc]
  simp [List.getD, hl]
theorem list_ok {s : St} (h : s.ok) (i : Nat) : W64 (s.list.getD i 0) := by
  obtain ⟨h0, h1, h2, h3, h4, h5, h6, h7⟩ := h
  rcases i with _ | _ | _ | _ | _ | _ | _ | _ | i
  all_goals first | assumption | exact ⟨by simp [St.list], by simp [St.list]⟩
/-- SHA-512 -/
def msg512 (l : List Int) : List Int := l ++ fillL 128 16 l.length false
def sha512 (l : List Int) : List Int := outB (run512 iv512 (msg512 l) ((msg512 l).length / 128)).list
theorem sha512_length (l : List Int) : (sha512 l).length = 64 := outB_length _
theorem sha512_bytes (l : List Int) : Bytes (sha512 l) := outB_bytes _
/-- what the reference's Sum512 holds at a block's beginning -/
structure RefAt (w W : World) (p2 p3 p4 gm om : Nat) (M : List Int) (s : St) : Prop where
  keeps : Keeps w W
  res : Row W p2 0 (List.replicate 64 (Value.int .u8 0))
  key : Row W p3 0 (k512.map (Value.int .u64))
  st : Row W p4 0 (s.list.map (Value.int .u64))
  msg : Row W gm om (M.map (Value.int .u8))
  new : w.heap.size ≤ p4 ∧ p2 ≠ p4 ∧ p3 ≠ p4 ∧ gm ≠ p4
theorem RefAt.step {w W W' : World} {p2 p3 p4 gm om : Nat} {M : List Int} {s : St} (h : RefAt w W p2 p3 p4 gm om M s) (hk : Keeps W W') : RefAt w W' p2 p3 p4 gm om M s :=
  ⟨h.keeps.trans hk, h.res.keeps hk, h.key.keeps hk, h.st.keeps hk, h.msg.keeps hk, h.new⟩
theorem RefAt.chg {w W W' : World} {p2 p3 p4 gm om : Nat} {M : List Int} {s s' : St} (h : RefAt w W p2 p3 p4 gm om M s) (hc : Chg (· = p4) W W') (hr : Row W' p4 0 (s'.list.map (Value.int .u64))) : RefAt w W' p2 p3 p4 gm om M s' :=
  ⟨keeps_chg h.keeps hc h.new.1, h.res.chg hc h.new.2.1, h.key.chg hc h.new.2.2.1, hr, h.msg.chg hc h.new.2.2.2, h.new⟩
theorem RefAt.other {w W W' : World} {p2 p3 p4 gm om q : Nat} {M : List Int} {s : St} (h : RefAt w W p2 p3 p4 gm om M s) (hc : Chg (· = q) W W') (hq : w.heap.size ≤ q) (h2 : p2 ≠ q) (h3 : p3 ≠ q) (h4 : p4 ≠ q) (hg : gm ≠ q) : RefAt w W' p2 p3 p4 gm om M s :=
  ⟨keeps_chg h.keeps hc hq, h.res.chg hc h2, h.key.chg hc h3, h.st.chg hc h4, h.msg.chg hc hg, h.new⟩
theorem sz_st8u : (Tryd.prog.info? 94).map (·.size) = some 8 := by kernel_rfl
end Go.Proofs.YtlofddoojkeakaaDoor.B64
