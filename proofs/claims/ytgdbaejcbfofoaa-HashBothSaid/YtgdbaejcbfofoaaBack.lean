/- slices.Backward at bytes: what the range over it is handed, from the last on. No condition but that the slice isn't nil. -/
import Derived.RangeFuncNested
import Derived.RangeFuncBound
import Derived.RangeFuncCalls
import Derived.RangeFuncLeaves
import Derived.RangeFuncWrites
import Derived.RangeFuncBox
import Derived.Shelf.Abstract
import Derived.WalkKit
import Derived.OwnWalkIn
import Derived.TacticsInMore
import Derived.LoopNIn
import Derived.LoopIn
import Derived.Test.YtgdbaejcbfofoaaBuild
namespace Go.Proofs.Ytgdbaejcbfofoaa
set_option linter.unusedVariables false
set_option linter.unusedSimpArgs false
open Go Go.RowKit Go.Shelf

abbrev B8 := { x : Int // 0 ≤ x ∧ x < 256 }
/-- what has come when k rounds are over, from the last on -/
def down {α : Type} (f : Nat → α) (len k : Nat) : List α := (List.range k).map fun j => f (len - 1 - j)
theorem down_succ {α : Type} (f : Nat → α) (len k : Nat) : down f len (k + 1) = down f len k ++ [f (len - 1 - k)] := by simp [down, List.range_succ]
theorem down_length {α : Type} (f : Nat → α) (len k : Nat) : (down f len k).length = k := by simp [down]
/-- what a round keeps for Backward: what lay below n₀, and the box of the slice -/
def KpT (n₀ Bs : Nat) (W W' : World) : Prop := Below n₀ W W' ∧ (W.heap[Bs]? = W'.heap[Bs]?)
theorem KpT.t {n₀ Bs : Nat} {A B C : World} (h : KpT n₀ Bs A B) (k : KpT n₀ Bs B C) : KpT n₀ Bs A C := ⟨h.1.trans k.1, h.2.trans k.2⟩
theorem KpT.b {n₀ Bs : Nat} {w : World} (hn : n₀ ≤ w.heap.size) (hB : Bs < w.heap.size) (W : World) (l : Nat) (o o' : Obj) (hl : w.heap.size ≤ l) (h : W.heap[l]? = some o) (hc : o.isCells = false) (hw : o.isWalk = false) : KpT n₀ Bs W (W.putObj l o') :=
  ⟨belowK_b hn W l o o' hl h hc hw, (World.putObj_heap_other (by omega)).symm⟩
theorem cell_heap {W W' : World} {b : Nat} (h : W.heap[b]? = W'.heap[b]?) (o : Nat) : W'.cell? ⟨b, o, none⟩ = W.cell? ⟨b, o, none⟩ := by simp [World.cell?, h]

set_option maxRecDepth 100000 in
set_option maxHeartbeats 2000000 in
theorem back1_in (F : Fence) (n : Nat) (hf : F.fn 117) (hro : F.round = none) (hn : 1 ≤ n) (l Bs n₀ b off len cap : Nat) (f : Nat → B8) (hlen : len ≤ 140737488351232) (hb : b < n₀) (J Jx : List (Nat × B8) → World → Prop)
    (hY : ∀ pre x W, J pre W → pre.length < len → YieldAt F (n - 1) Try.prog l #[.int .i64 (x.1 : Int), .int .u8 x.2.1] W fun e W' =>
      (e = .returned (.bool true) ∧ J (pre ++ [x]) W' ∧ KpT n₀ Bs W W') ∨ (e = .returned (.bool false) ∧ Jx (pre ++ [x]) W'))
    (W : World) (hBs : W.cell? ⟨Bs, 0, none⟩ = some (.slice (some ⟨b, off, none⟩) len cap)) (hc : ∀ j, j < len → W.cell? ⟨b, off + j, none⟩ = some (.int .u8 (f j).1)) (h0 : J [] W) :
    CallsIn F n Try.prog 117 #[.func (.yield l) #[] #[], .pointer (some ⟨Bs, 0, none⟩)] W fun e W' => (∃ v, e = .returned v) ∧
      ((∃ ys, ys = down (fun j => (j, f j)) len len ∧ J ys W') ∨ (∃ pre, (∃ k, k ≤ len ∧ pre = down (fun j => (j, f j)) len k) ∧ Jx pre W')) := by
  refine callsIn_of_wp Try.func117 rfl hf ?_ hro
  simp only [Try.ntmps117, List.size_toArray, List.length_cons, List.length_nil, Nat.reduceAdd, Nat.reduceSub, Array.replicate_succ, Array.replicate_zero, List.push_toArray, List.append_toArray, List.nil_append, List.cons_append]
  gi_wp2
  gi_loopw [3] (fun i wr => ∃ k : Nat, ((k = len ∧ i = .int .i64 (-1)) ∨ (∃ r : Nat, k + r + 1 = len ∧ i = .int .i64 r)) ∧ J (down (fun j => (j, f j)) len k) wr ∧ wr.cell? ⟨Bs, 0, none⟩ = some (.slice (some ⟨b, off, none⟩) len cap) ∧ ∀ j, j < len → wr.cell? ⟨b, off + j, none⟩ = some (.int .u8 (f j).1))
    (fun i _ => (intOf i + 1).toNat)
  case atStart =>
    refine ⟨0, ?_, h0, hBs, hc⟩
    cases len with
    | zero => exact .inl ⟨rfl, by simp⟩
    | succ r => exact .inr ⟨r, by omega, by simp⟩
  case round =>
    obtain ⟨k, hk, hJs, hbx, hcs⟩ := hrel
    rcases hk with ⟨rfl, rfl⟩ | ⟨r, hkr, rfl⟩
    · gi_wp2
      go_end0
      exact ⟨⟨_, rfl⟩, .inl ⟨_, rfl, hJs⟩⟩
    · obtain ⟨y, hyy⟩ : ∃ y : B8, y = f r := ⟨_, rfl⟩
      have hcr := hcs r (by omega)
      rw [← hyy] at hcr
      obtain ⟨fn, tmps, assign, body, hy, hR⟩ := hY _ (r, y) wr hJs (by rw [down_length]; omega)
      dsimp only at hy
      have HYY := Lib.hid hyy
      clear hyy
      gi_wp2
      refine hR.mono ?_
      rintro e W3 (⟨rfl, hJ3, hk3⟩ | ⟨rfl, hJx3⟩)
      · gi_wp2
        go_roundw
        case rel =>
          refine ⟨k + 1, ?_, ?_, ?_, ?_⟩
          · cases r with
            | zero => exact .inl ⟨by omega, by simp⟩
            | succ r => exact .inr ⟨r, by omega, by congr 1; omega⟩
          · rw [down_succ, show len - 1 - k = r by omega, ← HYY.out]; exact hJ3
          · rw [cell_heap hk3.2]; exact hbx
          · exact fun j hj => (hk3.1.cell (p := ⟨b, off + j, none⟩) hb).trans (hcs j hj)
        case measure => simp [intOf]
      · gi_wp2
        refine bodyPost_ret (results_none rfl _ _ _) rfl ?_
        exact ⟨⟨_, rfl⟩, .inr ⟨_, ⟨k + 1, by omega, by rw [down_succ, show len - 1 - k = r by omega, ← HYY.out]⟩, hJx3⟩⟩
theorem back_in (F : Fence) (n : Nat) (hf : F.fn 64) (hro : F.round = none) (a : Option Addr) (len cap : Nat) (w : World) :
    CallsIn F n Try.prog 64 #[.slice a len cap] w fun e w' => e = .returned (.func (.func 117) #[] #[.pointer (some ⟨w.heap.size, 0, none⟩)]) ∧ w' = w.alloc (.cells #[.slice a len cap] 22) := by
  refine callsIn_of_wp Try.func64 rfl hf ?_ hro
  simp only [Try.ntmps64, List.size_toArray, List.length_cons, List.length_nil, Nat.reduceAdd, Nat.reduceSub, Array.replicate_succ, Array.replicate_zero, List.push_toArray, List.append_toArray, List.nil_append, List.cons_append]
  gi_wp2
  go_ret
  exact ⟨rfl, rfl⟩
theorem back_stops (F : Fence) (n : Nat) (hf : F.fn 117) (hro : F.round = none) (hn : 1 ≤ n) (Bs n₀ b off len cap : Nat) (f : Nat → B8) (hlen : len ≤ 140737488351232) (hb : b < n₀) (w : World) (hn₀ : n₀ ≤ w.heap.size)
    (hBs : w.cell? ⟨Bs, 0, none⟩ = some (.slice (some ⟨b, off, none⟩) len cap)) (hBl : Bs < w.heap.size) (hc : ∀ j, j < len → w.cell? ⟨b, off + j, none⟩ = some (.int .u8 (f j).1)) :
    SeqStopsK F n Try.prog 117 #[.pointer (some ⟨Bs, 0, none⟩)] (fun x : Nat × B8 => #[Value.int .i64 (x.1 : Int), Value.int .u8 x.2.1]) (KpT n₀ Bs) (fun ys => ys = down (fun j => (j, f j)) len len)
      (fun pre => ∃ k, k ≤ len ∧ pre = down (fun j => (j, f j)) len k) len w := fun l J Jx W hW _ _ hY h0 =>
  back1_in F n hf hro hn l Bs n₀ b off len cap f hlen hb J Jx hY W ((hW.cell (p := ⟨Bs, 0, none⟩) hBl).trans hBs) (fun j hj => (hW.cell (p := ⟨b, off + j, none⟩) (Nat.lt_of_lt_of_le hb hn₀)).trans (hc j hj)) h0
end Go.Proofs.Ytgdbaejcbfofoaa
