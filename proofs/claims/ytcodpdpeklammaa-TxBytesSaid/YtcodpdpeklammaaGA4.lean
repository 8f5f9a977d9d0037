/- wire.Writer: what is written into one, and what it hands out. -/
import Derived.Test.YtcodpdpeklammaaGA2
import Derived.Laws.CopyOwn
import Derived.Deep.Cut
import Derived.Deep.LoopGhost
import Derived.StillTail
import Derived.Test.YtcodpdpeklammaaGA3
namespace Go.Proofs.Ytcodpdpeklammaa
set_option linter.unusedVariables false
set_option linter.unusedSimpArgs false
open Go Go.RowKit

/-- the k lowest bytes of a number, the lowest first -/
def leB (v : Int) : Nat → List Int
  | 0 => []
  | k + 1 => leB v k ++ [v / 256 ^ k % 256]
theorem leB_length (v : Int) (k : Nat) : (leB v k).length = k := by
  induction k with
  | zero => rfl
  | succ k ih => simp [leB, ih]
theorem leB_bytes (v : Int) (k : Nat) : Bytes (leB v k) := by
  induction k with
  | zero => intro x hx; simp [leB] at hx
  | succ k ih =>
    intro x hx
    simp only [leB, List.mem_append, List.mem_singleton] at hx
    rcases hx with hx | rfl
    · exact ih x hx
    · exact ⟨by omega, by omega⟩
theorem leB_div (v : Int) (k : Nat) : v / 256 ^ k / 256 = v / 256 ^ (k + 1) := by
  rw [Int.pow_succ, Int.ediv_ediv_of_nonneg (Int.pow_nonneg (by decide))]
def shr8 (x : Int) (i : Nat) : Int := x / 256 ^ i
theorem shr8_zero (x : Int) : shr8 x 0 = x := by simp [shr8]
theorem shr8_succ (x : Int) (i : Nat) : shr8 x i / 256 = shr8 x (i + 1) := leB_div x i
theorem leB_zero (x : Int) : leB x 0 = [] := rfl
theorem leB_succ (x : Int) (i : Nat) : leB x (i + 1) = leB x i ++ [shr8 x i % 256] := rfl
/-- a writer that was made since w0: it holds n bytes l, in a slice v of its own -/
structure WrAt (w0 W : World) (g : Nat) (v : Value) (n : Nat) (l : List Int) : Prop where
  own : Own w0 W v n l
  row : Row W g 0 [v]
  new : w0.heap.size ≤ g
  apart : v.ownBlock ≠ some g
theorem WrAt.cell {w0 W : World} {g : Nat} {v : Value} {n : Nat} {l : List Int} (h : WrAt w0 W g v n l) : W.cell? ⟨g, 0, none⟩ = some v := (h.row 0 v rfl).1
theorem WrAt.free {w0 W : World} {g : Nat} {v : Value} {n : Nat} {l : List Int} (h : WrAt w0 W g v n l) : W.frozen? ⟨g, 0, none⟩ = false := (h.row 0 v rfl).2
theorem WrAt.keeps {w0 W W' : World} {g : Nat} {v : Value} {n : Nat} {l : List Int} (h : WrAt w0 W g v n l) (hk : Keeps W W') : WrAt w0 W' g v n l := ⟨h.own.step hk, h.row.keeps hk, h.new, h.apart⟩
theorem WrAt.len {w0 W : World} {g : Nat} {v : Value} {n : Nat} {l : List Int} (h : WrAt w0 W g v n l) : l.length = n := h.own.len
/-- what a write leaves: the writer's cell and its slice's block alone are changed -/
def WGrown (g : Nat) (v : Value) (w w' : World) (v' : Value) : Prop := Chg (fun b => b = g ∨ v.ownBlock = some b) w w' ∧ SameOrNew w v v'
theorem WGrown.refl (g : Nat) (v : Value) (w : World) : WGrown g v w w v := ⟨Chg.refl _ _, .inl rfl⟩
theorem WGrown.trans {g : Nat} {v v1 v2 : Value} {w w1 w2 : World} (h : WGrown g v w w1 v1) (k : WGrown g v1 w1 w2 v2) : WGrown g v w w2 v2 := by
  refine ⟨⟨k.1.os.trans h.1.os, k.1.tape.trans h.1.tape, k.1.output.trans h.1.output, Nat.le_trans h.1.size k.1.size, fun i hi hs => (k.1.block i (Nat.lt_of_lt_of_le hi h.1.size) (fun hc => ?_)).trans (h.1.block i hi hs)⟩, ?_⟩
  · rcases hc with e | e
    · exact hs (.inl e)
    · rcases h.2 with e2 | ⟨b, e2, e3⟩
      · exact hs (.inr (by rw [← e2]; exact e))
      · rw [e] at e2; cases e2; omega
  · rcases k.2 with e | ⟨b, e1, e2⟩
    · rcases h.2 with e3 | ⟨b, e3, e4⟩
      · exact .inl (e.trans e3)
      · exact .inr ⟨b, e.trans e3, e4⟩
    · exact .inr ⟨b, e1, Nat.le_trans h.1.size e2⟩
theorem WGrown.keeps {g : Nat} {v v' : Value} {w w1 w' : World} (hk : Keeps w w1) (h : WGrown g v w1 w' v') : WGrown g v w w' v' := by
  refine ⟨(hk.chg _).trans h.1, ?_⟩
  rcases h.2 with e | ⟨b, e1, e2⟩
  · exact .inl e
  · exact .inr ⟨b, e1, Nat.le_trans hk.size e2⟩
/-- behind an append, its result put into the writer's cell -/
theorem WrAt.put {w0 W W1 : World} {g : Nat} {v v' : Value} {n m : Nat} {l l' : List Int} (h : WrAt w0 W g v n l) (hO : Own w0 W1 v' m l') (hG : Grown W W1 v v') :
    WrAt w0 (W1.setCell ⟨g, 0, none⟩ v') g v' m l' ∧ WGrown g v W (W1.setCell ⟨g, 0, none⟩ v') v' := by
  have hg : g < W.heap.size := h.row.lt (by simp)
  have hap : v'.ownBlock ≠ some g := by
    rcases hG.2 with e | ⟨b, e1, e2⟩
    · rw [e]; exact h.apart
    · rw [e1]; intro e; cases e; omega
  have hr1 : Row W1 g 0 [v] := h.row.chg hG.1 h.apart
  have hc : Chg (· = g) W1 (W1.setCell ⟨g, 0, none⟩ v') := (Chg.refl (· = g) W1).setCell (p := ⟨g, 0, none⟩) (.inr rfl) _
  refine ⟨⟨⟨Below.setCell hO.keeps h.new _, hO.buf.chg hc (fun b hb e => hap (by rw [hb, e])), hO.new⟩, by have := hr1.set 0 (by simp) v'; simpa using this, h.new, hap⟩, ?_, hG.2⟩
  exact Chg.setCell (S := fun b => b = g ∨ v.ownBlock = some b) (p := ⟨g, 0, none⟩) (hG.1.mono (fun _ _ => Or.inr)) (.inr (.inl rfl)) v'
/-- before: what the old slice's cell holds, behind the append -/
theorem WrAt.cell2 {w0 W W1 : World} {g : Nat} {v v' : Value} {n : Nat} {l : List Int} (h : WrAt w0 W g v n l) (hG : Grown W W1 v v') : W1.cell? ⟨g, 0, none⟩ = some v ∧ W1.frozen? ⟨g, 0, none⟩ = false :=
  have hr1 : Row W1 g 0 [v] := h.row.chg hG.1 h.apart
  ⟨(hr1 0 v rfl).1, (hr1 0 v rfl).2⟩
set_option maxRecDepth 100000 in
set_option maxHeartbeats 1000000 in
theorem wnumber_any (w0 : World) (g : Nat) (v : Value) (n : Nat) (l : List Int) (x : Int) (h0 : 0 ≤ x) (h1 : x < 18446744073709551616) (k : Nat) (hk : k ≤ 8) (hn : n ≤ 70368744177664) (w : World) (h : WrAt w0 w g v n l) :
    Calls Try.prog 49 #[.pointer (some ⟨g, 0, none⟩), .int .u64 x, .int .i64 k] w fun e w' => e = .returned (.tuple #[]) ∧ ∃ v', WrAt w0 w' g v' (n + k) (l ++ leB x k) ∧ WGrown g v w w' v' := by
  have hx : ∀ i, 0 ≤ shr8 x i ∧ shr8 x i < 18446744073709551616 := fun i => ⟨Int.ediv_nonneg h0 (Int.pow_nonneg (by decide)), Int.lt_of_le_of_lt (Int.ediv_le_self _ h0) h1⟩
  have HX := Lib.hid hx; have HD := Lib.hid (shr8_succ x)
  have HLS := Lib.hid (leB_succ x)
  have HL0 := Lib.hid (leB_zero x)
  have HX0 := Lib.hid (shr8_zero x)
  generalize leB x = LB at *
  generalize shr8 x = X at *
  have HH := Lib.hid h
  clear h hx
  go_enter Try.func49, Try.ntmps49
  go_wp2
  go_loopw [1, 7] (fun xx c wr => ∃ i : Nat, i ≤ k ∧ c = .int .i64 i ∧ xx = .int .u64 (X i) ∧ ∃ v', WrAt w0 wr g v' (n + i) (l ++ LB i) ∧ WGrown g v w wr v') (fun _ c _ => (k - intOf c).toNat)
  case atStart => exact ⟨0, by omega, rfl, by rw [HX0.out], v, by rw [HL0.out, List.append_nil]; exact HH.out, WGrown.refl _ _ _⟩
  case round =>
    obtain ⟨i, hi, rfl, rfl, v1, hw1, hg1⟩ := hrel
    by_cases hlt : i < k
    · have c1 := hw1.cell
      have f1 := hw1.free
      have hm : IntKind.u8.wrap (X i) = X i % 256 := by rw [IntKind.wrap_u8]
      have hxr := HX.out i
      have hxd := HD.out i
      have hxs := HLS.out i
      obtain ⟨x0, x1⟩ := hxr
      have HXD := Lib.hid hxd; have HXS := Lib.hid hxs
      have HW := Lib.hid hw1; have HG := Lib.hid hg1
      clear hxd hxs hw1 hg1
      generalize X i = xi at *
      go_wp2_with (refine own_append1 rfl _ _ rfl HW.out.own rfl 1 _ _ rfl (by omega) ?_; intro v2 w2 hO hG; obtain ⟨c2, f2⟩ := HW.out.cell2 hG; obtain ⟨a2, cp2, rfl⟩ := hO.any; have HO2 := Lib.hid hO; have HG2 := Lib.hid hG; clear hO hG)
      obtain ⟨hw3, hg3⟩ := HW.out.put HO2.out HG2.out
      go_roundw
      case rel => exact ⟨i + 1, by omega, by go_num, by rw [HXD.out], _, by rw [HXS.out, ← List.append_assoc]; exact hw3, HG.out.trans hg3⟩
      case measure => simp [intOf]; omega
    · obtain rfl : i = k := by omega
      have HW := Lib.hid hw1; have HG := Lib.hid hg1
      clear hw1 hg1
      go_wp2
      go_end0
      exact ⟨rfl, v1, HW.out, HG.out⟩
set_option maxHeartbeats 1000000 in
theorem wu32_any (w0 : World) (g : Nat) (v : Value) (n : Nat) (l : List Int) (x : Int) (h0 : 0 ≤ x) (h1 : x < 4294967296) (hn : n ≤ 70368744177664) (w : World) (h : WrAt w0 w g v n l) :
    Calls Try.prog 19 #[.pointer (some ⟨g, 0, none⟩), .int .u32 x] w fun e w' => e = .returned (.tuple #[]) ∧ ∃ v', WrAt w0 w' g v' (n + 4) (l ++ leB x 4) ∧ WGrown g v w w' v' := by
  have HN := Lib.hid (wnumber_any w0 g v n l x h0 (by omega) 4 (by omega) hn w h)
  clear h
  go_enter Try.func19, Try.ntmps19
  go_wp2_with (go_at_call 49; refine HN.out.mono ?_; rintro e W5 ⟨rfl, v5, hv5, hg5⟩; have HV := Lib.hid hv5; have HG := Lib.hid hg5; clear hv5 hg5)
  go_end0
  exact ⟨rfl, v5, HV.out, HG.out⟩
set_option maxHeartbeats 1000000 in
theorem wraw_any (w0 : World) (g : Nat) (v : Value) (n : Nat) (l : List Int) (xv : Value) (m : Nat) (xs : List Int) (hn : n + m ≤ 140737488355328) (w : World) (h : WrAt w0 w g v n l) (hr : Rd w 1 xv m (xs.map (Value.int .u8))) :
    Calls Try.prog 20 #[.pointer (some ⟨g, 0, none⟩), xv] w fun e w' => e = .returned (.tuple #[]) ∧ ∃ v', WrAt w0 w' g v' (n + m) (l ++ xs) ∧ WGrown g v w w' v' := by
  have c1 := h.cell
  have f1 := h.free
  obtain ⟨a, cap, rfl⟩ := h.own.any
  obtain ⟨xa, xc, rfl⟩ : ∃ a c, xv = .slice a m c := by obtain ⟨_, a, c, e, _⟩ := hr; exact ⟨a, c, e⟩
  have HH := Lib.hid h; have HR := Lib.hid hr
  clear h hr
  go_enter Try.func20, Try.ntmps20
  go_wp2_with (refine own_append rfl _ _ rfl HH.out.own (Keeps.refl _) rfl _ rfl m xs (HR.out.src Try.underlying29 (int_oneCell xs)) (by omega) ?_; intro v2 w2 hO hG; obtain ⟨c2, f2⟩ := HH.out.cell2 hG; obtain ⟨a2, cp2, rfl⟩ := hO.any; have HO2 := Lib.hid hO; have HG2 := Lib.hid hG; clear hO hG)
  obtain ⟨hw3, hg3⟩ := HH.out.put HO2.out HG2.out
  go_end0
  exact ⟨rfl, _, hw3, hg3⟩
theorem bclone_any (v : Value) (n : Nat) (l : List Int) (w : World) (hr : Rd w 1 v n (l.map (Value.int .u8))) (hn : n ≤ 140737488355328) :
    Calls Try.prog 52 #[v] w fun e w' => ∃ v', e = .returned v' ∧ Own w w' v' n l := by
  have hr0 := hr
  obtain ⟨h0, a, cap, rfl, h2, h3, h4, h5⟩ := hr0
  rw [List.length_map, Nat.mul_one] at h0
  cases a with
  | none =>
    obtain ⟨rfl, rfl⟩ := h4 rfl
    obtain rfl : l = [] := List.eq_nil_of_length_eq_zero h0
    refine (Try.bytes_Clone_nil 0 0 w).mono ?_
    rintro e w' ⟨rfl, rfl⟩
    exact ⟨_, rfl, Own.nil _⟩
  | some ad =>
    refine (Try.bytes_Clone_at ad n cap l w h0 hn ?_).mono ?_
    · intro i hi
      obtain ⟨g, off, rfl, hg, hrow⟩ := h5 ad rfl (by omega)
      have e : (⟨g, off, none⟩ : Addr).add i = ⟨g, off + i, none⟩ := by unfold Addr.add; split <;> simp_all
      rw [e]
      exact hrow.int i (by omega)
    · rintro e w' ⟨v', rfl, hv, _, hb⟩
      refine ⟨v', rfl, hb, Buf.of_owned hv, ?_⟩
      intro g hg
      rcases hv.2 with ⟨rfl, _⟩ | ⟨g', cap', cur, rfl, hb', _⟩
      · simp [Value.ownBlock] at hg
      · simp [Value.ownBlock] at hg; omega
set_option maxHeartbeats 1000000 in
theorem wout_any (w0 : World) (g : Nat) (v : Value) (n : Nat) (l : List Int) (hn : n ≤ 140737488355328) (w : World) (h : WrAt w0 w g v n l) :
    Calls Try.prog 24 #[.pointer (some ⟨g, 0, none⟩)] w fun e w' => ∃ v', e = .returned v' ∧ Own w w' v' n l := by
  have c1 := h.cell
  have f1 := h.free
  have HC := Lib.hid (bclone_any v n l w h.own.rd hn)
  obtain ⟨a, cap, rfl⟩ := h.own.any
  clear h
  go_enter Try.func24, Try.ntmps24
  go_wp2_with (go_at_call 52; refine HC.out.mono ?_; rintro e W5 ⟨v5, rfl, hv5⟩; have HV := Lib.hid hv5; clear hv5)
  go_ret
  exact ⟨_, rfl, HV.out⟩
end Go.Proofs.Ytcodpdpeklammaa
