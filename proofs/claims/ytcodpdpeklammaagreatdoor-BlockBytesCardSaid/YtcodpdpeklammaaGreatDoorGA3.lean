/- wire.Writer: what is written into one, and what it hands out. | wire.Writer: one byte, eight bytes, a compact size, a text. | A transaction's bytes, in plain Lean. No condition. | Reading, in plain Lean: numbers, sizes, texts, transactions; what was written is read back. No condition. -/
import Derived.Test.YtcodpdpeklammaaGreatDoorGA1
import Derived.Laws.CopyOwn
import Derived.Deep.Cut
import Derived.Deep.LoopGhost
import Derived.StillTail
import Derived.Test.YtcodpdpeklammaaGreatDoorGA2
import Derived.Maps.Own
namespace Go.Proofs.YtcodpdpeklammaaGreatDoor
set_option linter.unusedVariables false
set_option linter.unusedSimpArgs false
open Go Go.RowKit

/-- the k lowest bytes of a number, the lowest first -/
def leB (v : Int) : Nat → List Int
  | 0 => []
  | k + 1 => leB v k ++ [v / 256 ^ k % 256]
theorem leB_length (v : Int) (k : Nat) : (leB v k).length = k := by
  induction k with
  | zero => rfl
  | succ k ih => simp [leB, ih]
theorem leB_bytes (v : Int) (k : Nat) : Bytes (leB v k) := by
  induction k with
  | zero => intro x hx; simp [leB] at hx
  | succ k ih =>
    intro x hx
    simp only [leB, List.mem_append, List.mem_singleton] at hx
    rcases hx with hx | rfl
    · exact ih x hx
    · exact ⟨by omega, by omega⟩
theorem leB_div (v : Int) (k : Nat) : v / 256 ^ k / 256 = v / 256 ^ (k + 1) := by
  rw [Int.pow_succ, Int.ediv_ediv_of_nonneg (Int.pow_nonneg (by decide))]
def shr8 (x : Int) (i : Nat) : Int := x / 256 ^ i
theorem shr8_zero (x : Int) : shr8 x 0 = x := by simp [shr8]
theorem shr8_succ (x : Int) (i : Nat) : shr8 x i / 256 = shr8 x (i + 1) := leB_div x i
theorem leB_zero (x : Int) : leB x 0 = [] := rfl
theorem leB_succ (x : Int) (i : Nat) : leB x (i + 1) = leB x i ++ [shr8 x i % 256] := rfl
/-- a writer that was made since w0: it holds n bytes l, in a slice v of its own -/
structure WrAt (w0 W : World) (g : Nat) (v : Value) (n : Nat) (l : List Int) : Prop where
  own : Own w0 W v n l
  row : Row W g 0 [v]
  new : w0.heap.size ≤ g
  apart : v.ownBlock ≠ some g
theorem WrAt.cell {w0 W : World} {g : Nat} {v : Value} {n : Nat} {l : List Int} (h : WrAt w0 W g v n l) : W.cell? ⟨g, 0, none⟩ = some v := (h.row 0 v rfl).1
theorem WrAt.free {w0 W : World} {g : Nat} {v : Value} {n : Nat} {l : List Int} (h : WrAt w0 W g v n l) : W.frozen? ⟨g, 0, none⟩ = false := (h.row 0 v rfl).2
theorem WrAt.keeps {w0 W W' : World} {g : Nat} {v : Value} {n : Nat} {l : List Int} (h : WrAt w0 W g v n l) (hk : Keeps W W') : WrAt w0 W' g v n l := ⟨h.own.step hk, h.row.keeps hk, h.new, h.apart⟩
theorem WrAt.len {w0 W : World} {g : Nat} {v : Value} {n : Nat} {l : List Int} (h : WrAt w0 W g v n l) : l.length = n := h.own.len
/-- what a write leaves: the writer's cell and its slice's block alone are changed -/
def WGrown (g : Nat) (v : Value) (w w' : World) (v' : Value) : Prop := Chg (fun b => b = g ∨ v.ownBlock = some b) w w' ∧ SameOrNew w v v'
theorem WGrown.refl (g : Nat) (v : Value) (w : World) : WGrown g v w w v := ⟨Chg.refl _ _, .inl rfl⟩
theorem WGrown.trans {g : Nat} {v v1 v2 : Value} {w w1 w2 : World} (h : WGrown g v w w1 v1) (k : WGrown g v1 w1 w2 v2) : WGrown g v w w2 v2 := by
  refine ⟨⟨k.1.os.trans h.1.os, k.1.tape.trans h.1.tape, k.1.output.trans h.1.output, Nat.le_trans h.1.size k.1.size, fun i hi hs => (k.1.block i (Nat.lt_of_lt_of_le hi h.1.size) (fun hc => ?_)).trans (h.1.block i hi hs)⟩, ?_⟩
  · rcases hc with e | e
    · exact hs (.inl e)
    · rcases h.2 with e2 | ⟨b, e2, e3⟩
      · exact hs (.inr (by rw [← e2]; exact e))
      · rw [e] at e2; cases e2; omega
  · rcases k.2 with e | ⟨b, e1, e2⟩
    · rcases h.2 with e3 | ⟨b, e3, e4⟩
      · exact .inl (e.trans e3)
      · exact .inr ⟨b, e.trans e3, e4⟩
    · exact .inr ⟨b, e1, Nat.le_trans h.1.size e2⟩
theorem WGrown.keeps {g : Nat} {v v' : Value} {w w1 w' : World} (hk : Keeps w w1) (h : WGrown g v w1 w' v') : WGrown g v w w' v' := by
  refine ⟨(hk.chg _).trans h.1, ?_⟩
  rcases h.2 with e | ⟨b, e1, e2⟩
  · exact .inl e
  · exact .inr ⟨b, e1, Nat.le_trans hk.size e2⟩
/-- behind an append, its result put into the writer's cell -/
theorem WrAt.put {w0 W W1 : World} {g : Nat} {v v' : Value} {n m : Nat} {l l' : List Int} (h : WrAt w0 W g v n l) (hO : Own w0 W1 v' m l') (hG : Grown W W1 v v') :
    WrAt w0 (W1.setCell ⟨g, 0, none⟩ v') g v' m l' ∧ WGrown g v W (W1.setCell ⟨g, 0, none⟩ v') v' := by
  have hg : g < W.heap.size := h.row.lt (by simp)
  have hap : v'.ownBlock ≠ some g := by
    rcases hG.2 with e | ⟨b, e1, e2⟩
    · rw [e]; exact h.apart
    · rw [e1]; intro e; cases e; omega
  have hr1 : Row W1 g 0 [v] := h.row.chg hG.1 h.apart
  have hc : Chg (· = g) W1 (W1.setCell ⟨g, 0, none⟩ v') := (Chg.refl (· = g) W1).setCell (p := ⟨g, 0, none⟩) (.inr rfl) _
  refine ⟨⟨⟨Below.setCell hO.keeps h.new _, hO.buf.chg hc (fun b hb e => hap (by rw [hb, e])), hO.new⟩, by have := hr1.set 0 (by simp) v'; simpa using this, h.new, hap⟩, ?_, hG.2⟩
  exact Chg.setCell (S := fun b => b = g ∨ v.ownBlock = some b) (p := ⟨g, 0, none⟩) (hG.1.mono (fun _ _ => Or.inr)) (.inr (.inl rfl)) v'
/-- before: what the old slice's cell holds, behind the append -/
theorem WrAt.cell2 {w0 W W1 : World} {g : Nat} {v v' : Value} {n : Nat} {l : List Int} (h : WrAt w0 W g v n l) (hG : Grown W W1 v v') : W1.cell? ⟨g, 0, none⟩ = some v ∧ W1.frozen? ⟨g, 0, none⟩ = false :=
  have hr1 : Row W1 g 0 [v] := h.row.chg hG.1 h.apart
  ⟨(hr1 0 v rfl).1, (hr1 0 v rfl).2⟩
set_option maxRecDepth 100000 in
set_option maxHeartbeats 1000000 in
theorem wnumber_any (w0 : World) (g : Nat) (v : Value) (n : Nat) (l : List Int) (x : Int) (h0 : 0 ≤ x) (h1 : x < 18446744073709551616) (k : Nat) (hk : k ≤ 8) (hn : n ≤ 70368744177664) (w : World) (h : WrAt w0 w g v n l) :
    Calls Tryz.prog 52 #[.pointer (some ⟨g, 0, none⟩), .int .u64 x, .int .i64 k] w fun e w' => e = .returned (.tuple #[]) ∧ ∃ v', WrAt w0 w' g v' (n + k) (l ++ leB x k) ∧ WGrown g v w w' v' := by
  have hx : ∀ i, 0 ≤ shr8 x i ∧ shr8 x i < 18446744073709551616 := fun i => ⟨Int.ediv_nonneg h0 (Int.pow_nonneg (by decide)), Int.lt_of_le_of_lt (Int.ediv_le_self _ h0) h1⟩
  have HX := Lib.hid hx; have HD := Lib.hid (shr8_succ x)
  have HLS := Lib.hid (leB_succ x)
  have HL0 := Lib.hid (leB_zero x)
  have HX0 := Lib.hid (shr8_zero x)
  generalize leB x = LB at *
  generalize shr8 x = X at *
  have HH := Lib.hid h
  clear h hx
  go_enter Tryz.func52, Tryz.ntmps52
  go_wp2
  go_loopw [1, 7] (fun xx c wr => ∃ i : Nat, i ≤ k ∧ c = .int .i64 i ∧ xx = .int .u64 (X i) ∧ ∃ v', WrAt w0 wr g v' (n + i) (l ++ LB i) ∧ WGrown g v w wr v') (fun _ c _ => (k - intOf c).toNat)
  case atStart => exact ⟨0, by omega, rfl, by rw [HX0.out], v, by rw [HL0.out, List.append_nil]; exact HH.out, WGrown.refl _ _ _⟩
  case round =>
    obtain ⟨i, hi, rfl, rfl, v1, hw1, hg1⟩ := hrel
    by_cases hlt : i < k
    · have c1 := hw1.cell
      have f1 := hw1.free
      have hm : IntKind.u8.wrap (X i) = X i % 256 := by rw [IntKind.wrap_u8]
      have hxr := HX.out i
      have hxd := HD.out i
      have hxs := HLS.out i
      obtain ⟨x0, x1⟩ := hxr
      have HXD := Lib.hid hxd; have HXS := Lib.hid hxs
      have HW := Lib.hid hw1; have HG := Lib.hid hg1
      clear hxd hxs hw1 hg1
      generalize X i = xi at *
      go_wp2_with (refine own_append1 rfl _ _ rfl HW.out.own rfl 1 _ _ rfl (by omega) ?_; intro v2 w2 hO hG; obtain ⟨c2, f2⟩ := HW.out.cell2 hG; obtain ⟨a2, cp2, rfl⟩ := hO.any; have HO2 := Lib.hid hO; have HG2 := Lib.hid hG; clear hO hG)
      obtain ⟨hw3, hg3⟩ := HW.out.put HO2.out HG2.out
      go_roundw
      case rel => exact ⟨i + 1, by omega, by go_num, by rw [HXD.out], _, by rw [HXS.out, ← List.append_assoc]; exact hw3, HG.out.trans hg3⟩
      case measure => simp [intOf]; omega
    · obtain rfl : i = k := by omega
      have HW := Lib.hid hw1; have HG := Lib.hid hg1
      clear hw1 hg1
      go_wp2
      go_end0
      exact ⟨rfl, v1, HW.out, HG.out⟩
set_option maxHeartbeats 1000000 in
theorem wu32_any (w0 : World) (g : Nat) (v : Value) (n : Nat) (l : List Int) (x : Int) (h0 : 0 ≤ x) (h1 : x < 4294967296) (hn : n ≤ 70368744177664) (w : World) (h : WrAt w0 w g v n l) :
    Calls Tryz.prog 26 #[.pointer (some ⟨g, 0, none⟩), .int .u32 x] w fun e w' => e = .returned (.tuple #[]) ∧ ∃ v', WrAt w0 w' g v' (n + 4) (l ++ leB x 4) ∧ WGrown g v w w' v' := by
  have HN := Lib.hid (wnumber_any w0 g v n l x h0 (by omega) 4 (by omega) hn w h)
  clear h
  go_enter Tryz.func26, Tryz.ntmps26
  go_wp2_with (go_at_call 52; refine HN.out.mono ?_; rintro e W5 ⟨rfl, v5, hv5, hg5⟩; have HV := Lib.hid hv5; have HG := Lib.hid hg5; clear hv5 hg5)
  go_end0
  exact ⟨rfl, v5, HV.out, HG.out⟩
set_option maxHeartbeats 1000000 in
theorem wraw_any (w0 : World) (g : Nat) (v : Value) (n : Nat) (l : List Int) (xv : Value) (m : Nat) (xs : List Int) (hn : n + m ≤ 140737488355328) (w : World) (h : WrAt w0 w g v n l) (hr : Rd w 1 xv m (xs.map (Value.int .u8))) :
    Calls Tryz.prog 21 #[.pointer (some ⟨g, 0, none⟩), xv] w fun e w' => e = .returned (.tuple #[]) ∧ ∃ v', WrAt w0 w' g v' (n + m) (l ++ xs) ∧ WGrown g v w w' v' := by
  have c1 := h.cell
  have f1 := h.free
  obtain ⟨a, cap, rfl⟩ := h.own.any
  obtain ⟨xa, xc, rfl⟩ : ∃ a c, xv = .slice a m c := by obtain ⟨_, a, c, e, _⟩ := hr; exact ⟨a, c, e⟩
  have HH := Lib.hid h; have HR := Lib.hid hr
  clear h hr
  go_enter Tryz.func21, Tryz.ntmps21
  go_wp2_with (refine own_append rfl _ _ rfl HH.out.own (Keeps.refl _) rfl _ rfl m xs (HR.out.src Tryz.underlying32 (int_oneCell xs)) (by omega) ?_; intro v2 w2 hO hG; obtain ⟨c2, f2⟩ := HH.out.cell2 hG; obtain ⟨a2, cp2, rfl⟩ := hO.any; have HO2 := Lib.hid hO; have HG2 := Lib.hid hG; clear hO hG)
  obtain ⟨hw3, hg3⟩ := HH.out.put HO2.out HG2.out
  go_end0
  exact ⟨rfl, _, hw3, hg3⟩
theorem bclone_any (v : Value) (n : Nat) (l : List Int) (w : World) (hr : Rd w 1 v n (l.map (Value.int .u8))) (hn : n ≤ 140737488355328) :
    Calls Tryz.prog 55 #[v] w fun e w' => ∃ v', e = .returned v' ∧ Own w w' v' n l := by
  have hr0 := hr
  obtain ⟨h0, a, cap, rfl, h2, h3, h4, h5⟩ := hr0
  rw [List.length_map, Nat.mul_one] at h0
  cases a with
  | none =>
    obtain ⟨rfl, rfl⟩ := h4 rfl
    obtain rfl : l = [] := List.eq_nil_of_length_eq_zero h0
    refine (Tryz.bytes_Clone_nil 0 0 w).mono ?_
    rintro e w' ⟨rfl, rfl⟩
    exact ⟨_, rfl, Own.nil _⟩
  | some ad =>
    refine (Tryz.bytes_Clone_at ad n cap l w h0 hn ?_).mono ?_
    · intro i hi
      obtain ⟨g, off, rfl, hg, hrow⟩ := h5 ad rfl (by omega)
      have e : (⟨g, off, none⟩ : Addr).add i = ⟨g, off + i, none⟩ := by unfold Addr.add; split <;> simp_all
      rw [e]
      exact hrow.int i (by omega)
    · rintro e w' ⟨v', rfl, hv, _, hb⟩
      refine ⟨v', rfl, hb, Buf.of_owned hv, ?_⟩
      intro g hg
      rcases hv.2 with ⟨rfl, _⟩ | ⟨g', cap', cur, rfl, hb', _⟩
      · simp [Value.ownBlock] at hg
      · simp [Value.ownBlock] at hg; omega
set_option maxHeartbeats 1000000 in
theorem wout_any (w0 : World) (g : Nat) (v : Value) (n : Nat) (l : List Int) (hn : n ≤ 140737488355328) (w : World) (h : WrAt w0 w g v n l) :
    Calls Tryz.prog 25 #[.pointer (some ⟨g, 0, none⟩)] w fun e w' => ∃ v', e = .returned v' ∧ Own w w' v' n l := by
  have c1 := h.cell
  have f1 := h.free
  have HC := Lib.hid (bclone_any v n l w h.own.rd hn)
  obtain ⟨a, cap, rfl⟩ := h.own.any
  clear h
  go_enter Tryz.func25, Tryz.ntmps25
  go_wp2_with (go_at_call 55; refine HC.out.mono ?_; rintro e W5 ⟨v5, rfl, hv5⟩; have HV := Lib.hid hv5; clear hv5)
  go_ret
  exact ⟨_, rfl, HV.out⟩
def sizeB (n : Int) : List Int := if n < 253 then [n] else if n < 65536 then 253 :: leB n 2 else if n < 4294967296 then 254 :: leB n 4 else 255 :: leB n 8
def textB (l : List Int) : List Int := sizeB (l.length : Int) ++ l
theorem sizeB_len (n : Int) : (sizeB n).length ≤ 9 := by
  unfold sizeB; split
  · simp
  · split
    · simp [leB_length]
    · split <;> simp [leB_length]
theorem leB_one (x : Int) (h0 : 0 ≤ x) (h1 : x < 256) : leB x 1 = [x] := by
  simp only [leB, List.nil_append, Int.pow_zero, Int.ediv_one]
  rw [Int.emod_eq_of_lt h0 h1]
set_option maxHeartbeats 1000000 in
theorem wu8_any (w0 : World) (g : Nat) (v : Value) (n : Nat) (l : List Int) (x : Int) (h0 : 0 ≤ x) (h1 : x < 256) (hn : n ≤ 70368744177664) (w : World) (h : WrAt w0 w g v n l) :
    Calls Tryz.prog 51 #[.pointer (some ⟨g, 0, none⟩), .int .u8 x] w fun e w' => e = .returned (.tuple #[]) ∧ ∃ v', WrAt w0 w' g v' (n + 1) (l ++ [x]) ∧ WGrown g v w w' v' := by
  have HN := Lib.hid (wnumber_any w0 g v n l x h0 (by omega) 1 (by omega) hn w h)
  have HL := Lib.hid (leB_one x h0 h1)
  clear h
  go_enter Tryz.func51, Tryz.ntmps51
  go_wp2_with (go_at_call 52; refine HN.out.mono ?_; rintro e W5 ⟨rfl, v5, hv5, hg5⟩; have HV := Lib.hid hv5; have HG := Lib.hid hg5; clear hv5 hg5)
  go_end0
  exact ⟨rfl, v5, by rw [← HL.out]; exact HV.out, HG.out⟩
set_option maxHeartbeats 1000000 in
theorem wu64_any (w0 : World) (g : Nat) (v : Value) (n : Nat) (l : List Int) (x : Int) (h0 : 0 ≤ x) (h1 : x < 18446744073709551616) (hn : n ≤ 70368744177664) (w : World) (h : WrAt w0 w g v n l) :
    Calls Tryz.prog 54 #[.pointer (some ⟨g, 0, none⟩), .int .u64 x] w fun e w' => e = .returned (.tuple #[]) ∧ ∃ v', WrAt w0 w' g v' (n + 8) (l ++ leB x 8) ∧ WGrown g v w w' v' := by
  have HN := Lib.hid (wnumber_any w0 g v n l x h0 h1 8 (by omega) hn w h)
  clear h
  go_enter Tryz.func54, Tryz.ntmps54
  go_wp2_with (go_at_call 52; refine HN.out.mono ?_; rintro e W5 ⟨rfl, v5, hv5, hg5⟩; have HV := Lib.hid hv5; have HG := Lib.hid hg5; clear hv5 hg5)
  go_end0
  exact ⟨rfl, v5, HV.out, HG.out⟩
def wideZ (x : Int) : Int := if x < 253 then 0 else if x < 65536 then 2 else if x < 4294967296 then 4 else 8
theorem wide_any (x : Int) (h0 : 0 ≤ x) (h1 : x < 18446744073709551616) (w : World) : Calls Tryz.prog 50 #[.int .u64 x] w fun e w' => e = .returned (.int .i64 (wideZ x)) ∧ w = w' := by
  unfold wideZ
  by_cases h2 : x < 253
  · rw [if_pos h2]
    go_enter Tryz.func50, Tryz.ntmps50
    go_wp2
    go_ret
    exact ⟨rfl, rfl⟩
  · rw [if_neg h2]
    by_cases h3 : x < 65536
    · rw [if_pos h3]
      go_enter Tryz.func50, Tryz.ntmps50
      go_wp2
      go_ret
      exact ⟨rfl, rfl⟩
    · rw [if_neg h3]
      by_cases h4 : x < 4294967296
      · rw [if_pos h4]
        go_enter Tryz.func50, Tryz.ntmps50
        go_wp2
        go_ret
        exact ⟨rfl, rfl⟩
      · rw [if_neg h4]
        go_enter Tryz.func50, Tryz.ntmps50
        go_wp2
        go_ret
        exact ⟨rfl, rfl⟩
set_option maxHeartbeats 1000000 in
theorem wsize_small (w0 : World) (g : Nat) (v : Value) (n : Nat) (l : List Int) (x : Int) (h0 : 0 ≤ x) (h1 : x < 253) (hn : n ≤ 70368744177664) (w : World) (h : WrAt w0 w g v n l) :
    Calls Tryz.prog 22 #[.pointer (some ⟨g, 0, none⟩), .int .u64 x] w fun e w' => e = .returned (.tuple #[]) ∧ ∃ v', WrAt w0 w' g v' (n + 1) (l ++ [x]) ∧ WGrown g v w w' v' := by
  have HN := Lib.hid (wu8_any w0 g v n l x h0 (by omega) hn)
  have HW := Lib.hid (wide_any x h0 (by omega))
  have e0 : wideZ x = 0 := by unfold wideZ; rw [if_pos h1]
  rw [e0] at HW
  have HH := Lib.hid h
  clear h
  go_enter Tryz.func22, Tryz.ntmps22
  go_wp2_with (first | (go_at_call 50; refine (HW.out _).mono ?_; rintro e W4 ⟨rfl, rfl⟩) | (go_at_call 51; refine (HN.out _ HH.out).mono ?_; rintro e W5 ⟨rfl, v5, hv5, hg5⟩; have HV := Lib.hid hv5; have HG := Lib.hid hg5; clear hv5 hg5))
  go_end0
  exact ⟨rfl, v5, HV.out, HG.out⟩
/-- since w a map has been made in block b, of at most n entries; it reads as D -/
structure OMap (k e : TypeId) (w W : World) (b n : Nat) (D : DataW Unit) : Prop where
  keeps : Keeps w W
  own : W.ownsMap Tryz.prog k (plainElem Tryz.prog e) b n D
  new : w.heap.size ≤ b
theorem OMap.made {k e : TypeId} {w W : World} (h : Keeps w W) : OMap k e w (W.alloc (.map #[] 0)) W.heap.size 0 (.map []) := ⟨Below.alloc h h.size _, World.ownsMap_made W _ _ _, h.size⟩
theorem OMap.step {k e : TypeId} {w W W' : World} {b n : Nat} {D : DataW Unit} (h : OMap k e w W b n D) (hk : Keeps W W') : OMap k e w W' b n D :=
  ⟨h.keeps.trans hk, h.own.kept (row := none) ⟨hk.os, hk.tape, hk.output, hk.size, fun i hi _ => hk.block i hi⟩ (by simp), h.new⟩
theorem wpList_makeMap_own {k e : TypeId} {w w0 : World} {ops : Array Oper} {rest : List Oper} {o : Oper} {a : Act} {Q : Exit → Act → World → Prop} (hg : o.guard = none) (t : TypeId) (hop : o.op = Op.makeMap t none) (h0 : Keeps w0 w)
    (hK : ∀ w', OMap k e w0 w' w.heap.size 0 (.map []) → wpList Tryz.prog ops Q rest (a.put o.dst (.map (some w.heap.size))) w') : wpList Tryz.prog ops Q (o :: rest) a w := by
  refine wpList_plain hg fun K' hK' => ?_
  unfold Oper.wp
  simp only [execOp, hop, Option.map, Sem.run_bind, run_makeMap, Result.andThen_ok, Sem.run_pure]
  exact hK' _ _ (hK _ (OMap.made h0))
theorem wpList_insert_own {k e : TypeId} {w w0 : World} {ops : Array Oper} {rest : List Oper} {o : Oper} {a : Act} {Q : Exit → Act → World → Prop} (hg : o.guard = none) (m x v : Operand) (t : TypeId) (hop : o.op = Op.insert t m x v ∨ o.op = Op.mapUpdate t m x v)
    (K : Maps.Keyed Tryz.prog k) (ht : Tryz.prog.underlying t = some (.map k e)) {b n : Nat} {D : DataW Unit} (hown : OMap k e w0 w b n D) (hm : a.eval m = .map (some b)) (hn : n < maxLen) (key val : Value) (kl : Lit) (hx : a.eval x = key) (hv : a.eval v = val) (hkey : keyOf Tryz.prog k key = some kl)
    (d : DataW Unit) (ps : List MemPlace) (hval : plainElem Tryz.prog e val = some (d, ps))
    (hK : ∀ w', OMap k e w0 w' b (n + 1) (D.put kl d) → w.grownBy w' (some b) → wpList Tryz.prog ops Q rest (a.put o.dst undef) w') : wpList Tryz.prog ops Q (o :: rest) a w := by
  refine wpList_plain hg fun K' hK' => ?_
  obtain ⟨w', hrun, r1, r2⟩ := hown.own.update K ht hn hkey hval
  unfold Oper.wp
  rcases hop with hop | hop <;> (
    simp [execOp, hop, hm, hx, hv, hrun, Result.andThen]
    exact hK' _ _ (hK w' ⟨Below.grown hown.keeps r2 hown.keeps.size (fun k hk => by cases hk; exact hown.new), r1, hown.new⟩ r2))
theorem wpList_find_own {k e : TypeId} {q : IntKind} {w w0 : World} {ops : Array Oper} {rest : List Oper} {o : Oper} {a : Act} {Q : Exit → Act → World → Prop} (hg : o.guard = none) (m x : Operand) (t : TypeId) (hop : o.op = Op.lookup t m x false)
    (K : Maps.Keyed Tryz.prog k) (ht : Tryz.prog.underlying t = some (.map k e)) (he : Tryz.prog.underlying e = some (.int q)) {b n : Nat} {D : DataW Unit} (hown : OMap k e w0 w b n D) (hz : (zeroValue e).run Tryz.prog w = .ok (.int q 0) w) (hm : a.eval m = .map (some b)) (key : Value) (kl : Lit) (hx : a.eval x = key) (hkey : keyOf Tryz.prog k key = some kl)
    (c : Int) (hc : D.atKey kl (.lit (.int q 0)) = .lit (.int q c)) (hK : wpList Tryz.prog ops Q rest (a.put o.dst (.int q c)) w) : wpList Tryz.prog ops Q (o :: rest) a w := by
  refine wpList_plain hg fun K' hK' => ?_
  obtain ⟨c', hrun, hat, hwc⟩ := hown.own.lookup_int K ht he hz hkey
  rw [hc] at hat
  cases hat
  unfold Oper.wp
  simp [execOp, hop, hm, hx, hrun, Result.andThen]
  exact hK' _ _ hK
theorem zero_u8 (w : World) : (zeroValue 5).run Tryz.prog w = .ok (.int .u8 0) w := by
  obtain ⟨i0, hi, hz0, hz1, hz2⟩ := info_parts u8_info
  simp [zeroValue, typeInfo, hi, hz0]
theorem marks : (((DataW.map ([] : List (Lit × DataW Unit))).put (.int .i64 2) (.lit (.int .u8 253))).put (.int .i64 4) (.lit (.int .u8 254))).put (.int .i64 8) (.lit (.int .u8 255)) = .map [(.int .i64 2, .lit (.int .u8 253)), (.int .i64 4, .lit (.int .u8 254)), (.int .i64 8, .lit (.int .u8 255))] := by
  simp [DataW.put, DataW.insert, Lit.before, Lit.sameKey]
set_option maxHeartbeats 1000000 in
set_option maxRecDepth 100000 in
theorem wsize_big (w0 : World) (g : Nat) (v : Value) (n : Nat) (l : List Int) (x : Int) (h0 : 0 ≤ x) (h1 : x < 18446744073709551616) (k : Nat) (m : Int) (hk : (k = 2 ∧ m = 253) ∨ (k = 4 ∧ m = 254) ∨ (k = 8 ∧ m = 255)) (e0 : wideZ x = (k : Int)) (hn : n ≤ 70368744177663) (w : World) (h : WrAt w0 w g v n l) :
    Calls Tryz.prog 22 #[.pointer (some ⟨g, 0, none⟩), .int .u64 x] w fun e w' => e = .returned (.tuple #[]) ∧ ∃ v', WrAt w0 w' g v' (n + 1 + k) (l ++ [m] ++ leB x k) ∧ WGrown g v w w' v' := by
  have HN := Lib.hid (wu8_any w0 g v n l m (by omega) (by omega) (by omega))
  have HM := Lib.hid (fun v' => wnumber_any w0 g v' (n + 1) (l ++ [m]) x h0 h1 k (by omega) (by omega))
  have HW := Lib.hid (wide_any x h0 h1)
  rw [e0] at HW
  have HH := Lib.hid h
  have KK := Lib.hid (Maps.int_keyed (P := Tryz.prog) Tryz.underlying3)
  clear h
  generalize leB x k = L at *
  rcases hk with ⟨rfl, rfl⟩ | ⟨rfl, rfl⟩ | ⟨rfl, rfl⟩ <;> (
    go_enter Tryz.func22, Tryz.ntmps22
    go_wp2_with (first | (go_at_call 50; refine (HW.out _).mono ?_; rintro e W4 ⟨rfl, rfl⟩) | (refine wpList_makeMap_own (k := 3) (e := 5) rfl 106 rfl (Keeps.refl w) ?_; intro w1 hm1) | (refine wpList_insert_own rfl _ _ _ 106 (.inl rfl) KK.out Tryz.underlying106 (by assumption) rfl (by unfold maxLen; omega) _ _ _ rfl rfl (Maps.keyOf_int_mk Tryz.underlying3 (by decide)) _ _ (plainElem_int Tryz.underlying5 (by decide)) ?_; clear hm1; intro w1 hm1 _) | (refine wpList_find_own rfl _ _ 106 rfl KK.out Tryz.underlying106 Tryz.underlying5 (by assumption) (zero_u8 _) rfl _ _ rfl (Maps.keyOf_int_mk Tryz.underlying3 (by decide)) _ (by rw [marks]; rfl) ?_) | (go_at_call 51; refine (HN.out _ (HH.out.keeps hm1.keeps)).mono ?_; rintro e W5 ⟨rfl, v5, hv5, hg5⟩; have HV := Lib.hid hv5; have HG := Lib.hid (hg5.keeps hm1.keeps); clear hv5 hg5) | (go_at_call 52; refine (HM.out _ _ HV.out).mono ?_; rintro e W6 ⟨rfl, v6, hv6, hg6⟩; have HV6 := Lib.hid hv6; have HG6 := Lib.hid hg6; clear hv6 hg6))
    go_end0
    exact ⟨rfl, v6, HV6.out, HG.out.trans HG6.out⟩)
theorem wsize_any (w0 : World) (g : Nat) (v : Value) (n : Nat) (l : List Int) (x : Int) (h0 : 0 ≤ x) (h1 : x < 18446744073709551616) (hn : n ≤ 70368744177663) (w : World) (h : WrAt w0 w g v n l) :
    Calls Tryz.prog 22 #[.pointer (some ⟨g, 0, none⟩), .int .u64 x] w fun e w' => e = .returned (.tuple #[]) ∧ ∃ v', WrAt w0 w' g v' (n + (sizeB x).length) (l ++ sizeB x) ∧ WGrown g v w w' v' := by
  unfold sizeB
  by_cases h2 : x < 253
  · rw [if_pos h2]
    exact wsize_small w0 g v n l x h0 h2 (by omega) w h
  · rw [if_neg h2]
    have big : ∀ (k : Nat) (m : Int), ((k = 2 ∧ m = 253) ∨ (k = 4 ∧ m = 254) ∨ (k = 8 ∧ m = 255)) → wideZ x = (k : Int) → Calls Tryz.prog 22 #[.pointer (some ⟨g, 0, none⟩), .int .u64 x] w fun e w' => e = .returned (.tuple #[]) ∧ ∃ v', WrAt w0 w' g v' (n + (m :: leB x k).length) (l ++ m :: leB x k) ∧ WGrown g v w w' v' := fun k m hk e0 => by
      have := wsize_big w0 g v n l x h0 h1 k m hk e0 hn w h
      rw [List.length_cons, leB_length, Nat.add_comm k 1, ← Nat.add_assoc]
      rwa [List.append_assoc, List.singleton_append] at this
    by_cases h3 : x < 65536
    · rw [if_pos h3]
      exact big 2 253 (by simp) (by unfold wideZ; rw [if_neg h2, if_pos h3]; rfl)
    · rw [if_neg h3]
      by_cases h4 : x < 4294967296
      · rw [if_pos h4]
        exact big 4 254 (by simp) (by unfold wideZ; rw [if_neg h2, if_neg h3, if_pos h4]; rfl)
      · rw [if_neg h4]
        exact big 8 255 (by simp) (by unfold wideZ; rw [if_neg h2, if_neg h3, if_neg h4]; rfl)
set_option maxHeartbeats 1000000 in
theorem wbytes_any (w0 : World) (g : Nat) (v : Value) (n : Nat) (l : List Int) (xv : Value) (xs : List Int) (hn : n + xs.length ≤ 70368744177000) (w : World) (h : WrAt w0 w g v n l) (hr : Rd w 1 xv xs.length (xs.map (Value.int .u8))) (hap : ∀ b, xv.ownBlock = some b → b ≠ g ∧ v.ownBlock ≠ some b ∧ b < w.heap.size) :
    Calls Tryz.prog 23 #[.pointer (some ⟨g, 0, none⟩), xv] w fun e w' => e = .returned (.tuple #[]) ∧ ∃ v', WrAt w0 w' g v' (n + (textB xs).length) (l ++ textB xs) ∧ WGrown g v w w' v' := by
  have hS := wsize_any w0 g v n l (xs.length : Int) (by omega) (by omega) (by omega) w h
  have hsl := sizeB_len (xs.length : Int)
  have hR : ∀ (v1 : Value) (w1 : World), WrAt w0 w1 g v1 (n + (sizeB (xs.length : Int)).length) (l ++ sizeB (xs.length : Int)) → WGrown g v w w1 v1 → Calls Tryz.prog 21 #[.pointer (some ⟨g, 0, none⟩), xv] w1 fun e w' => e = .returned (.tuple #[]) ∧ ∃ v', WrAt w0 w' g v' (n + (textB xs).length) (l ++ textB xs) ∧ WGrown g v1 w1 w' v' := fun v1 w1 h1 g1 => by
    have := wraw_any w0 g v1 _ _ xv xs.length xs (by omega) w1 h1 (hr.chg g1.1 (fun b e => by
      obtain ⟨a1, a2, a3⟩ := hap b e
      rintro (e2 | e2)
      · exact a1 e2
      · exact a2 e2))
    unfold textB
    rwa [List.length_append, ← Nat.add_assoc, ← List.append_assoc]
  obtain ⟨xa, xc, rfl⟩ : ∃ a c, xv = .slice a xs.length c := by obtain ⟨_, a, c, e, _⟩ := hr; exact ⟨a, c, e⟩
  have HS := Lib.hid hS; have HR := Lib.hid hR
  clear hS hR hr hap h
  generalize textB xs = TB at *
  generalize sizeB (xs.length : Int) = SB at *
  generalize xs.length = m at *
  go_enter Tryz.func23, Tryz.ntmps23
  go_wp2_with (first | (go_at_call 22; refine HS.out.mono ?_; rintro e W4 ⟨rfl, v4, hv4, hg4⟩; have HV4 := Lib.hid hv4; have HG4 := Lib.hid hg4; clear hv4 hg4) | (go_at_call 21; refine (HR.out _ _ HV4.out HG4.out).mono ?_; rintro e W5 ⟨rfl, v5, hv5, hg5⟩; have HV := Lib.hid hv5; have HG := Lib.hid hg5; clear hv5 hg5))
  go_end0
  exact ⟨rfl, v5, HV.out, HG4.out.trans HG.out⟩
def witnessedD (d : TxD) : Bool := d.ins.any (fun i => decide (0 < i.wit.length))
def inB (d : InD) : List Int := d.hash ++ leB d.index 4 ++ textB d.script ++ leB d.seq 4
def insB (l : List InD) : List Int := sizeB (l.length : Int) ++ l.flatMap inB
def outB (d : OutD) : List Int := leB (d.value % 18446744073709551616) 8 ++ textB d.script
def outsB (l : List OutD) : List Int := sizeB (l.length : Int) ++ l.flatMap outB
def witB (d : InD) : List Int := sizeB (d.wit.length : Int) ++ d.wit.flatMap textB
def encB (d : TxD) (wit : Bool) : List Int := leB (d.ver % 4294967296) 4 ++ (if wit && witnessedD d then [0, 1] else []) ++ insB d.ins ++ outsB d.outs ++ (if wit && witnessedD d then d.ins.flatMap witB else []) ++ leB d.lock 4
/-- all its parts together are not too long -/
def Fits (d : TxD) : Prop := (insB d.ins).length + (outsB d.outs).length + (d.ins.flatMap witB).length ≤ 1000000000000
theorem take_flat {α : Type} (f : α → List Int) (l : List α) (i : Nat) (x : α) (h : l[i]? = some x) : (l.take (i + 1)).flatMap f = (l.take i).flatMap f ++ f x := by
  rw [List.take_add_one, h]; simp
theorem flat_take_le {α : Type} (f : α → List Int) (l : List α) (i : Nat) : ((l.take i).flatMap f).length ≤ (l.flatMap f).length := by
  conv => rhs; rw [← List.take_append_drop i l]
  rw [List.flatMap_append, List.length_append]
  omega
theorem flat_le {α : Type} (f : α → List Int) (c : Nat) : ∀ (l : List α), (∀ x ∈ l, (f x).length ≤ c) → (l.flatMap f).length ≤ l.length * c
  | [], _ => by simp
  | x :: l, h => by
    rw [List.flatMap_cons, List.length_append, List.length_cons, Nat.add_mul, Nat.one_mul]
    have h1 := h x (by simp)
    have h2 := flat_le f c l (fun y hy => h y (by simp [hy]))
    omega
theorem inB_eq (d : InD) (l : List Int) : l ++ d.hash ++ leB d.index 4 ++ textB d.script ++ leB d.seq 4 = l ++ inB d := by unfold inB; simp only [List.append_assoc]
theorem outB_eq (d : OutD) (l : List Int) : l ++ leB (d.value % 18446744073709551616) 8 ++ textB d.script = l ++ outB d := by unfold outB; simp only [List.append_assoc]
theorem any_false_upto {α : Type} (f : α → Bool) (l : List α) (h : ∀ (i : Nat) (x : α), l[i]? = some x → f x = false) : l.any f = false := by
  rw [List.any_eq_false]
  intro x hx
  obtain ⟨i, hi, e⟩ := List.getElem_of_mem hx
  rw [h i x (by rw [List.getElem?_eq_getElem hi, e])]
  simp
theorem any_true_at {α : Type} (f : α → Bool) (l : List α) (i : Nat) (x : α) (h : l[i]? = some x) (hf : f x = true) : l.any f = true := by
  rw [List.any_eq_true]
  exact ⟨x, List.mem_of_getElem? h, hf⟩
/-- what is read, and what is left; or the error -/
abbrev Rdr (α : Type) := List Int → Except Int (α × List Int)
def rdOk {α : Type} (a : α) : Rdr α := fun r => .ok (a, r)
def rdErr {α : Type} (e : Int) : Rdr α := fun _ => .error e
def rdBind {α β : Type} (p : Rdr α) (f : α → Rdr β) : Rdr β := fun r => match p r with
  | .error e => .error e
  | .ok (a, r1) => f a r1
def rdTake (n : Nat) : Rdr (List Int) := fun r => if r.length < n then .error 4 else .ok (r.take n, r.drop n)
def leV : List Int → Int
  | [] => 0
  | b :: r => b + 256 * leV r
def rdNum (n : Nat) : Rdr Int := rdBind (rdTake n) (fun b => rdOk (leV b))
def markLen (first : Int) : Nat := if first = 253 then 2 else if first = 254 then 4 else 8
def rdSize : Rdr Int := rdBind (rdNum 1) (fun first => if first < 253 then rdOk first else
  rdBind (rdNum (markLen first)) (fun x => if (sizeB x).length ≠ markLen first + 1 then rdErr 3 else if 33554432 < x then rdErr 2 else rdOk x))
def rdList (most : Int) : Rdr (List Int) := rdBind rdSize (fun n => if most < n then rdErr 2 else rdTake n.toNat)
def rdCount : Rdr Nat := rdBind rdSize (fun n => if 25000 < n then rdErr 2 else rdOk n.toNat)
def rdMany {α : Type} (p : Rdr α) : Nat → Rdr (List α)
  | 0 => rdOk []
  | n + 1 => rdBind (rdMany p n) (fun l => rdBind p (fun a => rdOk (l ++ [a])))
def rdIn : Rdr InD := rdBind (rdTake 32) (fun h => rdBind (rdNum 4) (fun x => rdBind (rdList 100000) (fun s => rdBind (rdNum 4) (fun q => rdOk ⟨h, x, s, q, []⟩))))
def toI64 (x : Int) : Int := if x < 9223372036854775808 then x else x - 18446744073709551616
def toI32 (x : Int) : Int := if x < 2147483648 then x else x - 4294967296
def rdOut : Rdr OutD := rdBind (rdNum 8) (fun v => rdBind (rdList 100000) (fun s => rdOk ⟨toI64 v, s⟩))
def rdWit (d : InD) : Rdr InD := rdBind rdCount (fun k => rdBind (rdMany (rdList 100000) k) (fun l => rdOk { d with wit := l }))
/-- the witnesses of the first i inputs -/
def rdWits (l : List InD) : Nat → Rdr (List InD)
  | 0 => rdOk []
  | i + 1 => rdBind (rdWits l i) (fun m => rdBind (rdWit (l.getD i ⟨[], 0, [], 0, []⟩)) (fun d => rdOk (m ++ [d])))
/-- behind the number of inputs -/
def rdRest (ver : Int) (second : Bool) (n : Nat) : Rdr TxD :=
  rdBind (rdMany rdIn n) (fun ins => rdBind rdCount (fun m => rdBind (rdMany rdOut m) (fun outs =>
    rdBind (if second then rdWits ins ins.length else rdOk ins) (fun ins2 => rdBind (rdNum 4) (fun lock =>
      fun r => if (second && !witnessedD ⟨ver, ins2, outs, lock⟩) || decide (0 < r.length) then .error 3 else .ok (⟨ver, ins2, outs, lock⟩, r))))))
def rdTx : Rdr TxD := rdBind (rdNum 4) (fun v => rdBind rdCount (fun n =>
  if n = 0 then rdBind (rdNum 1) (fun f => if f ≠ 1 then rdErr 3 else rdBind rdCount (fun n2 => rdRest (toI32 v) true n2)) else rdRest (toI32 v) false n))
/-- Decode -/
def decTx (b : List Int) : Except Int TxD := if 100000 < b.length then .error 2 else match rdTx b with
  | .error e => .error e
  | .ok (d, _) => .ok d

/-! what was written is read back -/
theorem rdBind_ok {α β : Type} {p : Rdr α} {f : α → Rdr β} {r r1 : List Int} {a : α} (h : p r = .ok (a, r1)) : rdBind p f r = f a r1 := by unfold rdBind; rw [h]
theorem rdBind_err {α β : Type} {p : Rdr α} {f : α → Rdr β} {r : List Int} {e : Int} (h : p r = .error e) : rdBind p f r = .error e := by unfold rdBind; rw [h]
theorem rdTake_app (l r : List Int) (n : Nat) (h : l.length = n) : rdTake n (l ++ r) = .ok (l, r) := by
  unfold rdTake
  rw [if_neg (by rw [List.length_append]; omega), List.take_left' h, List.drop_left' h]
theorem leV_app (a b : List Int) : leV (a ++ b) = leV a + 256 ^ a.length * leV b := by
  induction a with
  | nil => simp [leV]
  | cons x r ih => simp only [List.cons_append, leV, ih, List.length_cons, Int.pow_succ]; grind
theorem leV_leB (v : Int) (h : 0 ≤ v) : ∀ k, leV (leB v k) = v % 256 ^ k
  | 0 => by simp [leB, leV]
  | k + 1 => by
    rw [leB, leV_app, leV_leB v h k, leB_length]
    obtain ⟨n, rfl⟩ := Int.eq_ofNat_of_zero_le h
    have e : ((256 : Int) ^ k) = ((256 ^ k : Nat) : Int) := by simp
    have e2 : ((256 : Int) ^ (k + 1)) = ((256 ^ (k + 1) : Nat) : Int) := by simp
    have := Nat.mod_mul (x := n) (a := 256 ^ k) (b := 256)
    rw [e, e2, Nat.pow_succ]
    simp only [leV, Int.mul_zero, Int.add_zero]
    rw [← Int.natCast_ediv, ← Int.natCast_emod, ← Int.natCast_emod, this]
    rw [show ((n / 256 ^ k : Nat) : Int) % 256 = ((n / 256 ^ k % 256 : Nat) : Int) by simp]
    simp
theorem rdNum_app (x : Int) (k : Nat) (r : List Int) (h0 : 0 ≤ x) (h1 : x < 256 ^ k) : rdNum k (leB x k ++ r) = .ok (x, r) := by
  unfold rdNum
  rw [rdBind_ok (rdTake_app _ _ _ (leB_length _ _)), leV_leB x h0, Int.emod_eq_of_lt h0 h1]
  rfl
theorem rdSize_app (x : Int) (r : List Int) (h0 : 0 ≤ x) (h1 : x ≤ 33554432) : rdSize (sizeB x ++ r) = .ok (x, r) := by
  have one : ∀ (m : Int) (r : List Int), rdNum 1 (m :: r) = .ok (m, r) := fun m r => by
    unfold rdNum
    rw [show m :: r = [m] ++ r from rfl, rdBind_ok (rdTake_app [m] r 1 rfl)]
    simp [rdOk, leV]
  have big : ∀ (m : Int) (k : Nat), 253 ≤ m → markLen m = k → sizeB x = m :: leB x k → x < 256 ^ k → rdSize (sizeB x ++ r) = .ok (x, r) := fun m k hm hk hs hx => by
    unfold rdSize
    rw [hs, List.cons_append, rdBind_ok (one m _), if_neg (by omega), hk, rdBind_ok (rdNum_app x k r h0 hx), hs, if_neg (by rw [List.length_cons, leB_length]; simp), if_neg (by omega)]
    rfl
  by_cases a : x < 253
  · have hs : sizeB x = [x] := by unfold sizeB; rw [if_pos a]
    unfold rdSize
    rw [hs]
    show rdBind _ _ (x :: r) = _
    rw [rdBind_ok (one x r), if_pos a]
    rfl
  · by_cases b : x < 65536
    · exact big 253 2 (by omega) rfl (by unfold sizeB; rw [if_neg a, if_pos b]) (by omega)
    · exact big 254 4 (by omega) rfl (by unfold sizeB; rw [if_neg a, if_neg b, if_pos (by omega)]) (by omega)
theorem rdList_app (most : Int) (l r : List Int) (h1 : (l.length : Int) ≤ most) (h2 : (l.length : Int) ≤ 33554432) : rdList most (textB l ++ r) = .ok (l, r) := by
  unfold rdList textB
  rw [List.append_assoc, rdBind_ok (rdSize_app _ _ (by omega) h2), if_neg (by omega)]
  exact rdTake_app l r _ (by simp)
theorem rdCount_app (n : Nat) (r : List Int) (h : n ≤ 25000) : rdCount (sizeB (n : Int) ++ r) = .ok (n, r) := by
  unfold rdCount
  rw [rdBind_ok (rdSize_app _ _ (by omega) (by omega)), if_neg (by omega)]
  simp [rdOk]
theorem rdMany_app {α : Type} (p : Rdr α) (f : α → List Int) : ∀ (n : Nat) (l : List α) (r : List Int), l.length = n → (∀ x ∈ l, ∀ r, p (f x ++ r) = .ok (x, r)) → rdMany p n (l.flatMap f ++ r) = .ok (l, r)
  | 0, l, r, h, _ => by
    obtain rfl := List.eq_nil_of_length_eq_zero h
    rfl
  | n + 1, l, r, h, hp => by
    have hne : l ≠ [] := by rintro rfl; simp at h
    obtain ⟨m, a, rfl⟩ : ∃ m a, l = m ++ [a] := ⟨l.dropLast, l.getLast hne, (List.dropLast_concat_getLast hne).symm⟩
    have hm : m.length = n := by simpa using h
    rw [rdMany, List.flatMap_append, List.append_assoc, rdBind_ok (rdMany_app p f n m _ hm (fun x hx => hp x (by simp [hx])))]
    have e : [a].flatMap f ++ r = f a ++ r := by simp
    rw [e, rdBind_ok (hp a (by simp) r)]
    rfl
end Go.Proofs.YtcodpdpeklammaaGreatDoor
