/- wire.Writer: what is written into one, and what it hands out. | A transaction as data, and how memory reads as one: nested slices that may be read. No condition. -/
import Derived.Test.YtclhjlkgmeofcaaDoorGA1
import Derived.Laws.CopyOwn
import Derived.Deep.Cut
import Derived.Deep.LoopGhost
import Derived.StillTail
import Derived.Test.YtclhjlkgmeofcaaDoorGA2
namespace Go.Proofs.YtclhjlkgmeofcaaDoor
set_option linter.unusedVariables false
set_option linter.unusedSimpArgs false
open Go Go.RowKit

/-- the k lowest bytes of a number, the lowest first -/
def leB (v : Int) : Nat → List Int
  | 0 => []
  | k + 1 => leB v k ++ [v / 256 ^ k % 256]
theorem leB_length (v : Int) (k : Nat) : (leB v k).length = k := by
  induction k with
  | zero => rfl
  | succ k ih => simp [leB, ih]
theorem leB_bytes (v : Int) (k : Nat) : Bytes (leB v k) := by
  induction k with
  | zero => intro x hx; simp [leB] at hx
  | succ k ih =>
    intro x hx
    simp only [leB, List.mem_append, List.mem_singleton] at hx
    rcases hx with hx | rfl
    · exact ih x hx
    · exact ⟨by omega, by omega⟩
theorem leB_div (v : Int) (k : Nat) : v / 256 ^ k / 256 = v / 256 ^ (k + 1) := by
  rw [Int.pow_succ, Int.ediv_ediv_of_nonneg (Int.pow_nonneg (by decide))]
def shr8 (x : Int) (i : Nat) : Int := x / 256 ^ i
theorem shr8_zero (x : Int) : shr8 x 0 = x := by simp [shr8]
theorem shr8_succ (x : Int) (i : Nat) : shr8 x i / 256 = shr8 x (i + 1) := leB_div x i
theorem leB_zero (x : Int) : leB x 0 = [] := rfl
theorem leB_succ (x : Int) (i : Nat) : leB x (i + 1) = leB x i ++ [shr8 x i % 256] := rfl
/-- a writer that was made since w0: it holds n bytes l, in a slice v of its own -/
structure WrAt (w0 W : World) (g : Nat) (v : Value) (n : Nat) (l : List Int) : Prop where
  own : Own w0 W v n l
  row : Row W g 0 [v]
  new : w0.heap.size ≤ g
  apart : v.ownBlock ≠ some g
theorem WrAt.cell {w0 W : World} {g : Nat} {v : Value} {n : Nat} {l : List Int} (h : WrAt w0 W g v n l) : W.cell? ⟨g, 0, none⟩ = some v := (h.row 0 v rfl).1
theorem WrAt.free {w0 W : World} {g : Nat} {v : Value} {n : Nat} {l : List Int} (h : WrAt w0 W g v n l) : W.frozen? ⟨g, 0, none⟩ = false := (h.row 0 v rfl).2
theorem WrAt.keeps {w0 W W' : World} {g : Nat} {v : Value} {n : Nat} {l : List Int} (h : WrAt w0 W g v n l) (hk : Keeps W W') : WrAt w0 W' g v n l := ⟨h.own.step hk, h.row.keeps hk, h.new, h.apart⟩
theorem WrAt.len {w0 W : World} {g : Nat} {v : Value} {n : Nat} {l : List Int} (h : WrAt w0 W g v n l) : l.length = n := h.own.len
/-- what a write leaves: the writer's cell and its slice's block alone are changed -/
def WGrown (g : Nat) (v : Value) (w w' : World) (v' : Value) : Prop := Chg (fun b => b = g ∨ v.ownBlock = some b) w w' ∧ SameOrNew w v v'
theorem WGrown.refl (g : Nat) (v : Value) (w : World) : WGrown g v w w v := ⟨Chg.refl _ _, .inl rfl⟩
theorem WGrown.trans {g : Nat} {v v1 v2 : Value} {w w1 w2 : World} (h : WGrown g v w w1 v1) (k : WGrown g v1 w1 w2 v2) : WGrown g v w w2 v2 := by
  refine ⟨⟨k.1.os.trans h.1.os, k.1.tape.trans h.1.tape, k.1.output.trans h.1.output, Nat.le_trans h.1.size k.1.size, fun i hi hs => (k.1.block i (Nat.lt_of_lt_of_le hi h.1.size) (fun hc => ?_)).trans (h.1.block i hi hs)⟩, ?_⟩
  · rcases hc with e | e
    · exact hs (.inl e)
    · rcases h.2 with e2 | ⟨b, e2, e3⟩
      · exact hs (.inr (by rw [← e2]; exact e))
      · rw [e] at e2; cases e2; omega
  · rcases k.2 with e | ⟨b, e1, e2⟩
    · rcases h.2 with e3 | ⟨b, e3, e4⟩
      · exact .inl (e.trans e3)
      · exact .inr ⟨b, e.trans e3, e4⟩
    · exact .inr ⟨b, e1, Nat.le_trans h.1.size e2⟩
theorem WGrown.keeps {g : Nat} {v v' : Value} {w w1 w' : World} (hk : Keeps w w1) (h : WGrown g v w1 w' v') : WGrown g v w w' v' := by
  refine ⟨(hk.chg _).trans h.1, ?_⟩
  rcases h.2 with e | ⟨b, e1, e2⟩
  · exact .inl e
  · exact .inr ⟨b, e1, Nat.le_trans hk.size e2⟩
/-- behind an append, its result put into the writer's cell -/
theorem WrAt.put {w0 W W1 : World} {g : Nat} {v v' : Value} {n m : Nat} {l l' : List Int} (h : WrAt w0 W g v n l) (hO : Own w0 W1 v' m l') (hG : Grown W W1 v v') :
    WrAt w0 (W1.setCell ⟨g, 0, none⟩ v') g v' m l' ∧ WGrown g v W (W1.setCell ⟨g, 0, none⟩ v') v' := by
  have hg : g < W.heap.size := h.row.lt (by simp)
  have hap : v'.ownBlock ≠ some g := by
    rcases hG.2 with e | ⟨b, e1, e2⟩
    · rw [e]; exact h.apart
    · rw [e1]; intro e; cases e; omega
  have hr1 : Row W1 g 0 [v] := h.row.chg hG.1 h.apart
  have hc : Chg (· = g) W1 (W1.setCell ⟨g, 0, none⟩ v') := (Chg.refl (· = g) W1).setCell (p := ⟨g, 0, none⟩) (.inr rfl) _
  refine ⟨⟨⟨Below.setCell hO.keeps h.new _, hO.buf.chg hc (fun b hb e => hap (by rw [hb, e])), hO.new⟩, by have := hr1.set 0 (by simp) v'; simpa using this, h.new, hap⟩, ?_, hG.2⟩
  exact Chg.setCell (S := fun b => b = g ∨ v.ownBlock = some b) (p := ⟨g, 0, none⟩) (hG.1.mono (fun _ _ => Or.inr)) (.inr (.inl rfl)) v'
/-- before: what the old slice's cell holds, behind the append -/
theorem WrAt.cell2 {w0 W W1 : World} {g : Nat} {v v' : Value} {n : Nat} {l : List Int} (h : WrAt w0 W g v n l) (hG : Grown W W1 v v') : W1.cell? ⟨g, 0, none⟩ = some v ∧ W1.frozen? ⟨g, 0, none⟩ = false :=
  have hr1 : Row W1 g 0 [v] := h.row.chg hG.1 h.apart
  ⟨(hr1 0 v rfl).1, (hr1 0 v rfl).2⟩
set_option maxRecDepth 100000 in
set_option maxHeartbeats 1000000 in
theorem wnumber_any (w0 : World) (g : Nat) (v : Value) (n : Nat) (l : List Int) (x : Int) (h0 : 0 ≤ x) (h1 : x < 18446744073709551616) (k : Nat) (hk : k ≤ 8) (hn : n ≤ 70368744177664) (w : World) (h : WrAt w0 w g v n l) :
    Calls Tryd.prog 111 #[.pointer (some ⟨g, 0, none⟩), .int .u64 x, .int .i64 k] w fun e w' => e = .returned (.tuple #[]) ∧ ∃ v', WrAt w0 w' g v' (n + k) (l ++ leB x k) ∧ WGrown g v w w' v' := by
  have hx : ∀ i, 0 ≤ shr8 x i ∧ shr8 x i < 18446744073709551616 := fun i => ⟨Int.ediv_nonneg h0 (Int.pow_nonneg (by decide)), Int.lt_of_le_of_lt (Int.ediv_le_self _ h0) h1⟩
  have HX := Lib.hid hx; have HD := Lib.hid (shr8_succ x)
  have HLS := Lib.hid (leB_succ x)
  have HL0 := Lib.hid (leB_zero x)
  have HX0 := Lib.hid (shr8_zero x)
  generalize leB x = LB at *
  generalize shr8 x = X at *
  have HH := Lib.hid h
  clear h hx
  go_enter Tryd.func111, Tryd.ntmps111
  go_wp2
  go_loopw [1, 7] (fun xx c wr => ∃ i : Nat, i ≤ k ∧ c = .int .i64 i ∧ xx = .int .u64 (X i) ∧ ∃ v', WrAt w0 wr g v' (n + i) (l ++ LB i) ∧ WGrown g v w wr v') (fun _ c _ => (k - intOf c).toNat)
  case atStart => exact ⟨0, by omega, rfl, by rw [HX0.out], v, by rw [HL0.out, List.append_nil]; exact HH.out, WGrown.refl _ _ _⟩
  case round =>
    obtain ⟨i, hi, rfl, rfl, v1, hw1, hg1⟩ := hrel
    by_cases hlt : i < k
    · have c1 := hw1.cell
      have f1 := hw1.free
      have hm : IntKind.u8.wrap (X i) = X i % 256 := by rw [IntKind.wrap_u8]
      have hxr := HX.out i
      have hxd := HD.out i
      have hxs := HLS.out i
      obtain ⟨x0, x1⟩ := hxr
      have HXD := Lib.hid hxd; have HXS := Lib.hid hxs
      have HW := Lib.hid hw1; have HG := Lib.hid hg1
      clear hxd hxs hw1 hg1
      generalize X i = xi at *
      go_wp2_with (refine own_append1 rfl _ _ rfl HW.out.own rfl 1 _ _ rfl (by omega) ?_; intro v2 w2 hO hG; obtain ⟨c2, f2⟩ := HW.out.cell2 hG; obtain ⟨a2, cp2, rfl⟩ := hO.any; have HO2 := Lib.hid hO; have HG2 := Lib.hid hG; clear hO hG)
      obtain ⟨hw3, hg3⟩ := HW.out.put HO2.out HG2.out
      go_roundw
      case rel => exact ⟨i + 1, by omega, by go_num, by rw [HXD.out], _, by rw [HXS.out, ← List.append_assoc]; exact hw3, HG.out.trans hg3⟩
      case measure => simp [intOf]; omega
    · obtain rfl : i = k := by omega
      have HW := Lib.hid hw1; have HG := Lib.hid hg1
      clear hw1 hg1
      go_wp2
      go_end0
      exact ⟨rfl, v1, HW.out, HG.out⟩
set_option maxHeartbeats 1000000 in
theorem wu32_any (w0 : World) (g : Nat) (v : Value) (n : Nat) (l : List Int) (x : Int) (h0 : 0 ≤ x) (h1 : x < 4294967296) (hn : n ≤ 70368744177664) (w : World) (h : WrAt w0 w g v n l) :
    Calls Tryd.prog 64 #[.pointer (some ⟨g, 0, none⟩), .int .u32 x] w fun e w' => e = .returned (.tuple #[]) ∧ ∃ v', WrAt w0 w' g v' (n + 4) (l ++ leB x 4) ∧ WGrown g v w w' v' := by
  have HN := Lib.hid (wnumber_any w0 g v n l x h0 (by omega) 4 (by omega) hn w h)
  clear h
  go_enter Tryd.func64, Tryd.ntmps64
  go_wp2_with (go_at_call 111; refine HN.out.mono ?_; rintro e W5 ⟨rfl, v5, hv5, hg5⟩; have HV := Lib.hid hv5; have HG := Lib.hid hg5; clear hv5 hg5)
  go_end0
  exact ⟨rfl, v5, HV.out, HG.out⟩
set_option maxHeartbeats 1000000 in
theorem wraw_any (w0 : World) (g : Nat) (v : Value) (n : Nat) (l : List Int) (xv : Value) (m : Nat) (xs : List Int) (hn : n + m ≤ 140737488355328) (w : World) (h : WrAt w0 w g v n l) (hr : Rd w 1 xv m (xs.map (Value.int .u8))) :
    Calls Tryd.prog 65 #[.pointer (some ⟨g, 0, none⟩), xv] w fun e w' => e = .returned (.tuple #[]) ∧ ∃ v', WrAt w0 w' g v' (n + m) (l ++ xs) ∧ WGrown g v w w' v' := by
  have c1 := h.cell
  have f1 := h.free
  obtain ⟨a, cap, rfl⟩ := h.own.any
  obtain ⟨xa, xc, rfl⟩ : ∃ a c, xv = .slice a m c := by obtain ⟨_, a, c, e, _⟩ := hr; exact ⟨a, c, e⟩
  have HH := Lib.hid h; have HR := Lib.hid hr
  clear h hr
  go_enter Tryd.func65, Tryd.ntmps65
  go_wp2_with (refine own_append rfl _ _ rfl HH.out.own (Keeps.refl _) rfl _ rfl m xs (HR.out.src Tryd.underlying44 (int_oneCell xs)) (by omega) ?_; intro v2 w2 hO hG; obtain ⟨c2, f2⟩ := HH.out.cell2 hG; obtain ⟨a2, cp2, rfl⟩ := hO.any; have HO2 := Lib.hid hO; have HG2 := Lib.hid hG; clear hO hG)
  obtain ⟨hw3, hg3⟩ := HH.out.put HO2.out HG2.out
  go_end0
  exact ⟨rfl, _, hw3, hg3⟩
theorem bclone_any (v : Value) (n : Nat) (l : List Int) (w : World) (hr : Rd w 1 v n (l.map (Value.int .u8))) (hn : n ≤ 140737488355328) :
    Calls Tryd.prog 92 #[v] w fun e w' => ∃ v', e = .returned v' ∧ Own w w' v' n l := by
  have hr0 := hr
  obtain ⟨h0, a, cap, rfl, h2, h3, h4, h5⟩ := hr0
  rw [List.length_map, Nat.mul_one] at h0
  cases a with
  | none =>
    obtain ⟨rfl, rfl⟩ := h4 rfl
    obtain rfl : l = [] := List.eq_nil_of_length_eq_zero h0
    refine (Tryd.bytes_Clone_nil 0 0 w).mono ?_
    rintro e w' ⟨rfl, rfl⟩
    exact ⟨_, rfl, Own.nil _⟩
  | some ad =>
    refine (Tryd.bytes_Clone_at ad n cap l w h0 hn ?_).mono ?_
    · intro i hi
      obtain ⟨g, off, rfl, hg, hrow⟩ := h5 ad rfl (by omega)
      have e : (⟨g, off, none⟩ : Addr).add i = ⟨g, off + i, none⟩ := by unfold Addr.add; split <;> simp_all
      rw [e]
      exact hrow.int i (by omega)
    · rintro e w' ⟨v', rfl, hv, _, hb⟩
      refine ⟨v', rfl, hb, Buf.of_owned hv, ?_⟩
      intro g hg
      rcases hv.2 with ⟨rfl, _⟩ | ⟨g', cap', cur, rfl, hb', _⟩
      · simp [Value.ownBlock] at hg
      · simp [Value.ownBlock] at hg; omega
set_option maxHeartbeats 1000000 in
theorem wout_any (w0 : World) (g : Nat) (v : Value) (n : Nat) (l : List Int) (hn : n ≤ 140737488355328) (w : World) (h : WrAt w0 w g v n l) :
    Calls Tryd.prog 66 #[.pointer (some ⟨g, 0, none⟩)] w fun e w' => ∃ v', e = .returned v' ∧ Own w w' v' n l := by
  have c1 := h.cell
  have f1 := h.free
  have HC := Lib.hid (bclone_any v n l w h.own.rd hn)
  obtain ⟨a, cap, rfl⟩ := h.own.any
  clear h
  go_enter Tryd.func66, Tryd.ntmps66
  go_wp2_with (go_at_call 92; refine HC.out.mono ?_; rintro e W5 ⟨v5, rfl, hv5⟩; have HV := Lib.hid hv5; clear hv5)
  go_ret
  exact ⟨_, rfl, HV.out⟩
end Go.Proofs.YtclhjlkgmeofcaaDoor
namespace Go.Proofs.YtclhjlkgmeofcaaDoor
set_option linter.unusedVariables false
set_option linter.unusedSimpArgs false
open Go Go.RowKit

structure InD where
  hash : List Int
  index : Int
  script : List Int
  seq : Int
  wit : List (List Int)
structure OutD where
  value : Int
  script : List Int
structure TxD where
  ver : Int
  ins : List InD
  outs : List OutD
  lock : Int

def U32 (x : Int) : Prop := 0 ≤ x ∧ x < 4294967296
def I64 (x : Int) : Prop := -9223372036854775808 ≤ x ∧ x < 9223372036854775808
def I32 (x : Int) : Prop := -2147483648 ≤ x ∧ x < 2147483648

/-- a slice of bytes that may be read; the blocks that are read belong to S -/
structure RB (S : Nat → Prop) (w : World) (v : Value) (l : List Int) : Prop where
  rd : Rd w 1 v l.length (l.map (Value.int .u8))
  bytes : Bytes l
  small : l.length ≤ 140737488355328
  foot : ∀ g, v.ownBlock = some g → S g
theorem RB.any {S : Nat → Prop} {w : World} {v : Value} {l : List Int} (h : RB S w v l) : ∃ a cap, v = .slice a l.length cap ∧ l.length ≤ cap ∧ cap ≤ maxLen ∧ (a = none → l.length = 0 ∧ cap = 0) := by
  obtain ⟨_, a, cap, h1, h2, h3, h4, _⟩ := h.rd
  exact ⟨a, cap, h1, h2, h3, h4⟩
theorem RB.chg {S T : Nat → Prop} {w w' : World} {v : Value} {l : List Int} (h : RB S w v l) (hc : Chg T w w') (hs : ∀ g, S g → ¬ T g) : RB S w' v l :=
  ⟨h.rd.chg hc (fun g e => hs g (h.foot g e)), h.bytes, h.small, h.foot⟩
theorem RB.keeps {S : Nat → Prop} {w w' : World} {v : Value} {l : List Int} (h : RB S w v l) (hc : Keeps w w') : RB S w' v l :=
  ⟨h.rd.keeps hc, h.bytes, h.small, h.foot⟩
theorem RB.mono {S T : Nat → Prop} {w : World} {v : Value} {l : List Int} (h : RB S w v l) (hs : ∀ g, S g → T g) : RB T w v l :=
  ⟨h.rd, h.bytes, h.small, fun g e => hs g (h.foot g e)⟩
theorem RB.take {S : Nat → Prop} {w : World} {a : Option Addr} {n cap : Nat} {l : List Int} (h : RB S w (.slice a n cap) l) (m : Nat) (hm : m ≤ l.length) : RB S w (.slice a m cap) (l.take m) := by
  obtain ⟨⟨h0, a', cap', e, h2, h3, h4, h5⟩, hb, hsm, hf⟩ := h
  cases e
  have hl : (l.take m).length = m := by simp; omega
  refine ⟨⟨by simp, a, cap, by rw [hl], by omega, h3, fun e => by have := h4 e; omega, fun ad e hn => ?_⟩, fun x hx => hb x (List.mem_of_mem_take hx), by omega, fun g e => hf g (by cases a with | none => simp [Value.ownBlock] at e | some _ => simpa [Value.ownBlock] using e)⟩
  obtain ⟨g, off, e2, hg, hr⟩ := h5 ad e (by omega)
  exact ⟨g, off, e2, hg, by rw [List.map_take]; exact hr.take _⟩

/-- a slice of such slices -/
structure RL (S T : Nat → Prop) (w : World) (v : Value) (ls : List (List Int)) (vs : List Value) : Prop where
  rd : Rd w 1 v ls.length vs
  each : ∀ (i : Nat) (u : Value) (l : List Int), vs[i]? = some u → ls[i]? = some l → RB S w u l
  small : ls.length * 24 ≤ 140737488355328
  foot : ∀ g, v.ownBlock = some g → T g
def RLL (S T : Nat → Prop) (w : World) (v : Value) (ls : List (List Int)) : Prop := ∃ vs, RL S T w v ls vs
theorem RL.any {S T : Nat → Prop} {w : World} {v : Value} {ls : List (List Int)} {vs : List Value} (h : RL S T w v ls vs) : ∃ a cap, v = .slice a ls.length cap ∧ ls.length ≤ cap ∧ cap ≤ maxLen ∧ (a = none → ls.length = 0 ∧ cap = 0) := by
  obtain ⟨_, a, cap, h1, h2, h3, h4, _⟩ := h.rd
  exact ⟨a, cap, h1, h2, h3, h4⟩
theorem RLL.any {S T : Nat → Prop} {w : World} {v : Value} {ls : List (List Int)} (h : RLL S T w v ls) : ∃ a cap, v = .slice a ls.length cap ∧ ls.length ≤ cap ∧ cap ≤ maxLen ∧ (a = none → ls.length = 0 ∧ cap = 0) := h.elim fun _ h => h.any
theorem RL.len {S T : Nat → Prop} {w : World} {v : Value} {ls : List (List Int)} {vs : List Value} (h : RL S T w v ls vs) : vs.length = ls.length := by have := h.rd.1; omega
theorem RL.keeps {S T : Nat → Prop} {w w' : World} {v : Value} {ls : List (List Int)} {vs : List Value} (h : RL S T w v ls vs) (hc : Keeps w w') : RL S T w' v ls vs :=
  ⟨h.rd.keeps hc, fun i u l hu hl => (h.each i u l hu hl).keeps hc, h.small, h.foot⟩
theorem RLL.keeps {S T : Nat → Prop} {w w' : World} {v : Value} {ls : List (List Int)} (h : RLL S T w v ls) (hc : Keeps w w') : RLL S T w' v ls := h.elim fun vs h => ⟨vs, h.keeps hc⟩
theorem RL.chg {S T R : Nat → Prop} {w w' : World} {v : Value} {ls : List (List Int)} {vs : List Value} (h : RL S T w v ls vs) (hc : Chg R w w') (hs : ∀ g, S g → ¬ R g) (ht : ∀ g, T g → ¬ R g) : RL S T w' v ls vs :=
  ⟨h.rd.chg hc (fun g e => ht g (h.foot g e)), fun i u l hu hl => (h.each i u l hu hl).chg hc hs, h.small, h.foot⟩
theorem RLL.chg {S T R : Nat → Prop} {w w' : World} {v : Value} {ls : List (List Int)} (h : RLL S T w v ls) (hc : Chg R w w') (hs : ∀ g, S g → ¬ R g) (ht : ∀ g, T g → ¬ R g) : RLL S T w' v ls := h.elim fun vs h => ⟨vs, h.chg hc hs ht⟩
theorem RL.mono {S T S' T' : Nat → Prop} {w : World} {v : Value} {ls : List (List Int)} {vs : List Value} (h : RL S T w v ls vs) (hs : ∀ g, S g → S' g) (ht : ∀ g, T g → T' g) : RL S' T' w v ls vs :=
  ⟨h.rd, fun i u l hu hl => (h.each i u l hu hl).mono hs, h.small, fun g e => ht g (h.foot g e)⟩
theorem RLL.mono {S T S' T' : Nat → Prop} {w : World} {v : Value} {ls : List (List Int)} (h : RLL S T w v ls) (hs : ∀ g, S g → S' g) (ht : ∀ g, T g → T' g) : RLL S' T' w v ls := h.elim fun vs h => ⟨vs, h.mono hs ht⟩
/-- the element's cell, and what it reads -/
theorem RL.at {S T : Nat → Prop} {w : World} {a : Option Addr} {n cap : Nat} {ls : List (List Int)} {vs : List Value} (h : RL S T w (.slice a n cap) ls vs) (i : Nat) (hi : i < ls.length) :
    ∃ g off u, a = some ⟨g, off, none⟩ ∧ g < w.heap.size ∧ w.cell? ⟨g, off + i, none⟩ = some u ∧ w.frozen? ⟨g, off + i, none⟩ = false ∧ vs[i]? = some u ∧ RB S w u (ls.getD i []) := by
  obtain ⟨h0, a', cap', e, h2, h3, h4, h5⟩ := h.rd
  cases e
  cases a with
  | none => have := h4 rfl; omega
  | some ad =>
    obtain ⟨g, off, rfl, hg, hr⟩ := h5 _ rfl (by omega)
    have hv : vs[i]? = some (vs[i]'(by omega)) := List.getElem?_eq_getElem (by omega)
    obtain ⟨c, f⟩ := hr i _ hv
    exact ⟨g, off, _, rfl, hg, c, f, hv, h.each i _ _ hv (by simp [List.getD, hi])⟩
theorem RLL.at {S T : Nat → Prop} {w : World} {a : Option Addr} {n cap : Nat} {ls : List (List Int)} (h : RLL S T w (.slice a n cap) ls) (i : Nat) (hi : i < ls.length) :
    ∃ g off u, a = some ⟨g, off, none⟩ ∧ g < w.heap.size ∧ w.cell? ⟨g, off + i, none⟩ = some u ∧ RB S w u (ls.getD i []) := h.elim fun vs h => by
  obtain ⟨g, off, u, h1, h2, h3, _, _, h4⟩ := h.at i hi
  exact ⟨g, off, u, h1, h2, h3, h4⟩

/-- the cells of an input -/
def inCells (d : InD) (sv wv : Value) : List Value := d.hash.map (Value.int .u8) ++ [.int .u32 d.index, sv, .int .u32 d.seq, wv]
def outCells (d : OutD) (sv : Value) : List Value := [.int .i64 d.value, sv]
theorem inCells_length (d : InD) (sv wv : Value) (h : d.hash.length = 32) : (inCells d sv wv).length = 36 := by simp [inCells, h]
structure InD.Ok (d : InD) : Prop where
  hashLen : d.hash.length = 32
  hash : Bytes d.hash
  index : U32 d.index
  seq : U32 d.seq
/-- S: the blocks of scripts and items; T: those of the lists of items -/
structure RIn (S T : Nat → Prop) (w : World) (sv wv : Value) (d : InD) : Prop where
  ok : d.Ok
  script : RB S w sv d.script
  wit : RLL S T w wv d.wit
theorem RIn.keeps {S T : Nat → Prop} {w w' : World} {sv wv : Value} {d : InD} (h : RIn S T w sv wv d) (hc : Keeps w w') : RIn S T w' sv wv d := ⟨h.ok, h.script.keeps hc, h.wit.keeps hc⟩
theorem RIn.chg {S T R : Nat → Prop} {w w' : World} {sv wv : Value} {d : InD} (h : RIn S T w sv wv d) (hc : Chg R w w') (hs : ∀ g, S g → ¬ R g) (ht : ∀ g, T g → ¬ R g) : RIn S T w' sv wv d := ⟨h.ok, h.script.chg hc hs, h.wit.chg hc hs ht⟩
theorem RIn.mono {S T S' T' : Nat → Prop} {w : World} {sv wv : Value} {d : InD} (h : RIn S T w sv wv d) (hs : ∀ g, S g → S' g) (ht : ∀ g, T g → T' g) : RIn S' T' w sv wv d := ⟨h.ok, h.script.mono hs, h.wit.mono hs ht⟩
/-- a slice of inputs: ps: where their scripts and items lie -/
structure RIns (S T R : Nat → Prop) (w : World) (v : Value) (l : List InD) (cs : List Value) (ps : List (Value × Value)) : Prop where
  rd : Rd w 36 v l.length cs
  plen : ps.length = l.length
  each : ∀ (i : Nat) (p : Value × Value) (d : InD), ps[i]? = some p → l[i]? = some d → RIn S T w p.1 p.2 d ∧ (cs.drop (i * 36)).take 36 = inCells d p.1 p.2
  small : l.length * 96 ≤ 140737488355328
  foot : ∀ g, v.ownBlock = some g → R g
def RInsX (S T R : Nat → Prop) (w : World) (v : Value) (l : List InD) : Prop := ∃ cs ps, RIns S T R w v l cs ps
theorem RInsX.any {S T R : Nat → Prop} {w : World} {v : Value} {l : List InD} (h : RInsX S T R w v l) : ∃ a cap, v = .slice a l.length cap ∧ l.length ≤ cap ∧ cap ≤ maxLen ∧ (a = none → l.length = 0 ∧ cap = 0) := by
  obtain ⟨cs, ps, h⟩ := h
  obtain ⟨_, a, cap, h1, h2, h3, h4, _⟩ := h.rd
  exact ⟨a, cap, h1, h2, h3, h4⟩
theorem RInsX.keeps {S T R : Nat → Prop} {w w' : World} {v : Value} {l : List InD} (h : RInsX S T R w v l) (hc : Keeps w w') : RInsX S T R w' v l := by
  obtain ⟨cs, ps, h⟩ := h
  exact ⟨cs, ps, h.rd.keeps hc, h.plen, fun i p d hp hd => ⟨(h.each i p d hp hd).1.keeps hc, (h.each i p d hp hd).2⟩, h.small, h.foot⟩
theorem RInsX.chg {S T R X : Nat → Prop} {w w' : World} {v : Value} {l : List InD} (h : RInsX S T R w v l) (hc : Chg X w w') (hs : ∀ g, S g → ¬ X g) (ht : ∀ g, T g → ¬ X g) (hr : ∀ g, R g → ¬ X g) : RInsX S T R w' v l := by
  obtain ⟨cs, ps, h⟩ := h
  exact ⟨cs, ps, h.rd.chg hc (fun g e => hr g (h.foot g e)), h.plen, fun i p d hp hd => ⟨(h.each i p d hp hd).1.chg hc hs ht, (h.each i p d hp hd).2⟩, h.small, h.foot⟩
theorem RInsX.mono {S T R S' T' R' : Nat → Prop} {w : World} {v : Value} {l : List InD} (h : RInsX S T R w v l) (hs : ∀ g, S g → S' g) (ht : ∀ g, T g → T' g) (hr : ∀ g, R g → R' g) : RInsX S' T' R' w v l := by
  obtain ⟨cs, ps, h⟩ := h
  exact ⟨cs, ps, h.rd, h.plen, fun i p d hp hd => ⟨(h.each i p d hp hd).1.mono hs ht, (h.each i p d hp hd).2⟩, h.small, fun g e => hr g (h.foot g e)⟩
/-- the element's row -/
theorem RInsX.at {S T R : Nat → Prop} {w : World} {a : Option Addr} {n cap : Nat} {l : List InD} (h : RInsX S T R w (.slice a n cap) l) (i : Nat) (hi : i < l.length) :
    ∃ g off sv wv d, a = some ⟨g, off, none⟩ ∧ g < w.heap.size ∧ l[i]? = some d ∧ Row w g (off + i * 36) (inCells d sv wv) ∧ RIn S T w sv wv d := by
  obtain ⟨cs, ps, h⟩ := h
  obtain ⟨h0, a', cap', e, h2, h3, h4, h5⟩ := h.rd
  cases e
  have hpl := h.plen
  cases a with
  | none => have := h4 rfl; omega
  | some ad =>
    obtain ⟨g, off, rfl, hg, hr⟩ := h5 _ rfl (by omega)
    have hp : ps[i]? = some (ps[i]'(by omega)) := List.getElem?_eq_getElem (by omega)
    have hd : l[i]? = some (l[i]'hi) := List.getElem?_eq_getElem hi
    obtain ⟨h6, h7⟩ := h.each i _ _ hp hd
    refine ⟨g, off, _, _, _, rfl, hg, hd, ?_, h6⟩
    rw [← h7]
    exact (hr.drop (i * 36)).take 36
theorem at_index {w : World} {b o : Nat} {d : InD} {sv wv : Value} (h : Row w b o (inCells d sv wv)) (hl : d.hash.length = 32) :
    w.cell? ⟨b, o + 32, none⟩ = some (.int .u32 d.index) ∧ w.cell? ⟨b, o + 33, none⟩ = some sv ∧ w.cell? ⟨b, o + 34, none⟩ = some (.int .u32 d.seq) ∧ w.cell? ⟨b, o + 35, none⟩ = some wv := by
  refine ⟨(h 32 _ ?_).1, (h 33 _ ?_).1, (h 34 _ ?_).1, (h 35 _ ?_).1⟩ <;> (unfold inCells; rw [List.getElem?_append_right (by simp [hl])]; simp [hl])

structure ROuts (S R : Nat → Prop) (w : World) (v : Value) (l : List OutD) (cs : List Value) (ps : List Value) : Prop where
  rd : Rd w 2 v l.length cs
  plen : ps.length = l.length
  each : ∀ (i : Nat) (p : Value) (d : OutD), ps[i]? = some p → l[i]? = some d → RB S w p d.script ∧ I64 d.value ∧ (cs.drop (i * 2)).take 2 = outCells d p
  small : l.length * 32 ≤ 140737488355328
  foot : ∀ g, v.ownBlock = some g → R g
def ROutsX (S R : Nat → Prop) (w : World) (v : Value) (l : List OutD) : Prop := ∃ cs ps, ROuts S R w v l cs ps
theorem ROutsX.any {S R : Nat → Prop} {w : World} {v : Value} {l : List OutD} (h : ROutsX S R w v l) : ∃ a cap, v = .slice a l.length cap ∧ l.length ≤ cap ∧ cap ≤ maxLen ∧ (a = none → l.length = 0 ∧ cap = 0) := by
  obtain ⟨cs, ps, h⟩ := h
  obtain ⟨_, a, cap, h1, h2, h3, h4, _⟩ := h.rd
  exact ⟨a, cap, h1, h2, h3, h4⟩
theorem ROutsX.keeps {S R : Nat → Prop} {w w' : World} {v : Value} {l : List OutD} (h : ROutsX S R w v l) (hc : Keeps w w') : ROutsX S R w' v l := by
  obtain ⟨cs, ps, h⟩ := h
  exact ⟨cs, ps, h.rd.keeps hc, h.plen, fun i p d hp hd => ⟨(h.each i p d hp hd).1.keeps hc, (h.each i p d hp hd).2⟩, h.small, h.foot⟩
theorem ROutsX.chg {S R X : Nat → Prop} {w w' : World} {v : Value} {l : List OutD} (h : ROutsX S R w v l) (hc : Chg X w w') (hs : ∀ g, S g → ¬ X g) (hr : ∀ g, R g → ¬ X g) : ROutsX S R w' v l := by
  obtain ⟨cs, ps, h⟩ := h
  exact ⟨cs, ps, h.rd.chg hc (fun g e => hr g (h.foot g e)), h.plen, fun i p d hp hd => ⟨(h.each i p d hp hd).1.chg hc hs, (h.each i p d hp hd).2⟩, h.small, h.foot⟩
theorem ROutsX.mono {S R S' R' : Nat → Prop} {w : World} {v : Value} {l : List OutD} (h : ROutsX S R w v l) (hs : ∀ g, S g → S' g) (hr : ∀ g, R g → R' g) : ROutsX S' R' w v l := by
  obtain ⟨cs, ps, h⟩ := h
  exact ⟨cs, ps, h.rd, h.plen, fun i p d hp hd => ⟨(h.each i p d hp hd).1.mono hs, (h.each i p d hp hd).2⟩, h.small, fun g e => hr g (h.foot g e)⟩
theorem ROutsX.at {S R : Nat → Prop} {w : World} {a : Option Addr} {n cap : Nat} {l : List OutD} (h : ROutsX S R w (.slice a n cap) l) (i : Nat) (hi : i < l.length) :
    ∃ g off sv d, a = some ⟨g, off, none⟩ ∧ g < w.heap.size ∧ l[i]? = some d ∧ Row w g (off + i * 2) (outCells d sv) ∧ RB S w sv d.script ∧ I64 d.value := by
  obtain ⟨cs, ps, h⟩ := h
  obtain ⟨h0, a', cap', e, h2, h3, h4, h5⟩ := h.rd
  cases e
  have hpl := h.plen
  cases a with
  | none => have := h4 rfl; omega
  | some ad =>
    obtain ⟨g, off, rfl, hg, hr⟩ := h5 _ rfl (by omega)
    have hp : ps[i]? = some (ps[i]'(by omega)) := List.getElem?_eq_getElem (by omega)
    have hd : l[i]? = some (l[i]'hi) := List.getElem?_eq_getElem hi
    obtain ⟨h6, h8, h7⟩ := h.each i _ _ hp hd
    refine ⟨g, off, _, _, rfl, hg, hd, ?_, h6, h8⟩
    rw [← h7]
    exact (hr.drop (i * 2)).take 2
theorem at_value {w : World} {b o : Nat} {d : OutD} {sv : Value} (h : Row w b o (outCells d sv)) :
    w.cell? ⟨b, o, none⟩ = some (.int .i64 d.value) ∧ w.cell? ⟨b, o + 1, none⟩ = some sv := ⟨by have := (h 0 _ rfl).1; simpa using this, (h 1 _ rfl).1⟩

/-- everything -/
def AnyB : Nat → Prop := fun _ => True
structure RTx (S T R : Nat → Prop) (w : World) (iv ov : Value) (d : TxD) : Prop where
  ver : I32 d.ver
  lock : U32 d.lock
  ins : RInsX S T R w iv d.ins
  outs : ROutsX S R w ov d.outs
def txV (d : TxD) (iv ov : Value) : Value := .agg #[.int .i32 d.ver, iv, ov, .int .u32 d.lock]
theorem RTx.keeps {S T R : Nat → Prop} {w w' : World} {iv ov : Value} {d : TxD} (h : RTx S T R w iv ov d) (hc : Keeps w w') : RTx S T R w' iv ov d := ⟨h.ver, h.lock, h.ins.keeps hc, h.outs.keeps hc⟩
theorem RTx.chg {S T R X : Nat → Prop} {w w' : World} {iv ov : Value} {d : TxD} (h : RTx S T R w iv ov d) (hc : Chg X w w') (hs : ∀ g, S g → ¬ X g) (ht : ∀ g, T g → ¬ X g) (hr : ∀ g, R g → ¬ X g) : RTx S T R w' iv ov d := ⟨h.ver, h.lock, h.ins.chg hc hs ht hr, h.outs.chg hc hs hr⟩
theorem RTx.mono {S T R S' T' R' : Nat → Prop} {w : World} {iv ov : Value} {d : TxD} (h : RTx S T R w iv ov d) (hs : ∀ g, S g → S' g) (ht : ∀ g, T g → T' g) (hr : ∀ g, R g → R' g) : RTx S' T' R' w iv ov d := ⟨h.ver, h.lock, h.ins.mono hs ht hr, h.outs.mono hs hr⟩
end Go.Proofs.YtclhjlkgmeofcaaDoor
