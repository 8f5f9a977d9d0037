/- slices.Chunk at bytes: what the range over it is handed: parts of C bytes each, where the whole is a multiple of C. -/
import Derived.Test.YtlofddoojkeakaaDoorGC8
import Derived.Test.YtlofddoojkeakaaDoorGD0
namespace Go.Proofs.YtlofddoojkeakaaDoor
set_option linter.unusedVariables false
set_option linter.unusedSimpArgs false
open Go Go.RowKit Go.Shelf

/-- what a round keeps for Chunk: block p alone may turn, of those that were there at the loop's beginning -/
def KpC (n₀ p : Nat) (W W' : World) : Prop := Chg (fun k => k = p ∨ n₀ ≤ k) W W'
theorem KpC.b {n₀ p : Nat} {w : World} (hn : n₀ ≤ w.heap.size) (W : World) (l : Nat) (o o' : Obj) (hl : w.heap.size ≤ l) (h : W.heap[l]? = some o) (_ : o.isCells = false) (_ : o.isWalk = false) : KpC n₀ p W (W.putObj l o') :=
  ⟨rfl, rfl, rfl, by simp, fun k hk hs => World.putObj_heap_other (fun e => hs (.inr (by omega)))⟩
theorem KpC.cell {n₀ p : Nat} {W W' : World} (h : KpC n₀ p W W') {b : Nat} (o : Nat) (h1 : b ≠ p) (h2 : b < n₀) (h3 : b < W.heap.size) : W'.cell? ⟨b, o, none⟩ = W.cell? ⟨b, o, none⟩ := by
  have := h.block b h3 (by rintro (e | e); exact h1 e; omega)
  simp [World.cell?, this]
theorem finTake {B k : Nat} (h : k < B) : (List.finRange B).take (k + 1) = (List.finRange B).take k ++ [⟨k, h⟩] := by
  rw [List.take_succ_eq_append_getElem (by simpa using h)]
  simp
set_option maxRecDepth 100000 in
set_option maxHeartbeats 2000000 in
theorem chunk1_in (n : Nat) (hn : 1 ≤ n) (l Bs Bn n₀ p b off C B cap : Nat) (hC : 0 < C) (hC2 : C ≤ 1024) (hlen : C * B ≤ 140737488351232) (hcap : C * B ≤ cap) (h1 : Bs ≠ p) (h2 : Bn ≠ p) (h3 : Bs < n₀) (h4 : Bn < n₀) (J Jx : List (Fin B) → World → Prop) (N₁ : Nat) (hJab : AbidesFrom N₁ J)
    (hY : ∀ pre x W, J pre W → pre.length < B → YieldAt Fence.wide (n - 1) Tryd.prog l #[.slice (some ⟨b, off + C * x.val, none⟩) C C] W fun e W' =>
      (e = .returned (.bool true) ∧ J (pre ++ [x]) W' ∧ KpC n₀ p W W') ∨ (e = .returned (.bool false) ∧ Jx (pre ++ [x]) W'))
    (W : World) (hW : n₀ ≤ W.heap.size) (hBs : W.cell? ⟨Bs, 0, none⟩ = some (.slice (some ⟨b, off, none⟩) (C * B) cap)) (hBn : W.cell? ⟨Bn, 0, none⟩ = some (.int .i64 C)) (h0 : J [] W) :
    CallsIn Fence.wide n Tryd.prog 71 #[.func (.yield l) #[] #[], .pointer (some ⟨Bs, 0, none⟩), .pointer (some ⟨Bn, 0, none⟩)] W fun e W' => (∃ v, e = .returned v) ∧
      ((∃ ys, ys = List.finRange B ∧ J ys W') ∨ (∃ pre, (∃ k, k ≤ B ∧ pre = (List.finRange B).take k) ∧ Jx pre W')) := by
  refine callsIn_of_wp Tryd.func71 rfl trivial ?_ rfl
  simp only [Tryd.ntmps71, List.size_toArray, List.length_cons, List.length_nil, Nat.reduceAdd, Nat.reduceSub, Array.replicate_succ, Array.replicate_zero, List.push_toArray, List.append_toArray, List.nil_append, List.cons_append]
  gi_wp2
  gi_loopw [4] (fun i wr => ∃ k : Nat, k ≤ B ∧ i = .int .i64 ((C * k : Nat) : Int) ∧ n₀ ≤ wr.heap.size ∧ J ((List.finRange B).take k) wr ∧ wr.cell? ⟨Bs, 0, none⟩ = some (.slice (some ⟨b, off, none⟩) (C * B) cap) ∧ wr.cell? ⟨Bn, 0, none⟩ = some (.int .i64 C))
    (fun i _ => (C * B - intOf i).toNat)
  case atStart => exact ⟨0, by omega, rfl, hW, h0, hBs, hBn⟩
  case round =>
    obtain ⟨k, hk, rfl, hsz, hJs, hbs, hbn⟩ := hrel
    by_cases hlt : k < B
    · have hmul : C * k + C ≤ C * B := by
        have := Nat.mul_le_mul_left C (show k + 1 ≤ B by omega)
        rwa [Nat.mul_add, Nat.mul_one] at this
      have hmk : C * (k + 1) = C * k + C := by rw [Nat.mul_add, Nat.mul_one]
      have hyy := fun nq => hY _ ⟨k, hlt⟩ (wr.drewN nq) (hJab _ _ _ none hJs ⟨rfl, rfl, rfl, Nat.le_refl _, fun _ _ _ => rfl⟩ (fun r e => by cases e)) (by simp; omega)
      have HYY := Lib.hid hyy
      clear hyy
      have HMK := Lib.hid hmk
      clear hmk
      have HB := Lib.hid (fun W' (h : KpC n₀ p wr W') => And.intro ((h.cell (b := Bs) 0 h1 h3 (by omega)).trans hbs) ((h.cell (b := Bn) 0 h2 h4 (by omega)).trans hbn))
      have HSZ := Lib.hid hsz
      generalize hG : C * k = G at *
      have HG := Lib.hid hG
      clear hG
      generalize hL : C * B = L at *
      have HL := Lib.hid hL
      clear hL
      have hmin : min (C : Int) ((L - G : Nat) : Int) = (C : Int) := by omega
      gi_wp2
      refine wpIn_wide.2 ?_
      go_quiet (fail)
      obtain ⟨fn, tmps, assign, body, hy, hR⟩ := HYY.out nq
      have HKQ := Lib.hid (show Chg (fun k => k = p ∨ n₀ ≤ k) wr (wr.drewN nq) from (Chg.refl _ _).drewN nq)
      clear HYY hmin
      gi_wp2
      refine hR.mono ?_
      rintro e W3 (⟨rfl, hJ3, hk3⟩ | ⟨rfl, hJx3⟩)
      · have HK3 := Lib.hid (HB.out _ (HKQ.out.trans hk3))
        have HS3 := Lib.hid (Nat.le_trans HSZ.out (HKQ.out.trans hk3).size)
        obtain ⟨hb3, hn3⟩ := HK3.out
        gi_wp2
        go_roundw
        case rel => exact ⟨k + 1, by omega, by rw [HMK.out]; go_num, HS3.out, by rw [finTake hlt]; exact hJ3, hb3, hn3⟩
        case measure =>
          have e : (C : Int) * (B : Int) = (L : Int) := by have := HL.out; exact_mod_cast this
          simp [intOf]; omega
      · gi_wp2
        refine bodyPost_ret (results_none rfl _ _ _) rfl ?_
        exact ⟨⟨_, rfl⟩, .inr ⟨_, ⟨k + 1, by omega, by rw [finTake hlt]⟩, hJx3⟩⟩
    · obtain rfl : k = B := by omega
      gi_wp2
      go_end0
      rw [List.take_of_length_le (by simp)] at hJs
      exact ⟨⟨_, rfl⟩, .inl ⟨_, rfl, hJs⟩⟩
theorem chunk_stops (n : Nat) (hn : 1 ≤ n) (Bs Bn n₀ p b off C B cap : Nat) (hC : 0 < C) (hC2 : C ≤ 1024) (hlen : C * B ≤ 140737488351232) (hcap : C * B ≤ cap) (h1 : Bs ≠ p) (h2 : Bn ≠ p) (h3 : Bs < n₀) (h4 : Bn < n₀) (w : World) (hn₀ : n₀ ≤ w.heap.size)
    (hBs : w.cell? ⟨Bs, 0, none⟩ = some (.slice (some ⟨b, off, none⟩) (C * B) cap)) (hBn : w.cell? ⟨Bn, 0, none⟩ = some (.int .i64 C)) :
    SeqStopsK Fence.wide n Tryd.prog 71 #[.pointer (some ⟨Bs, 0, none⟩), .pointer (some ⟨Bn, 0, none⟩)] (fun x : Fin B => #[Value.slice (some ⟨b, off + C * x.val, none⟩) C C]) (KpC n₀ p) (fun ys => ys = List.finRange B)
      (fun pre => ∃ k, k ≤ B ∧ pre = (List.finRange B).take k) B w := fun l J Jx W hW hJ _ hY h0 =>
  chunk1_in n hn l Bs Bn n₀ p b off C B cap hC hC2 hlen hcap h1 h2 h3 h4 J Jx _ hJ hY W (Nat.le_trans hn₀ hW.size) ((hW.cell (p := ⟨Bs, 0, none⟩) (by show Bs < _; omega)).trans hBs) ((hW.cell (p := ⟨Bn, 0, none⟩) (by show Bn < _; omega)).trans hBn) h0
set_option maxRecDepth 100000 in
theorem chunk_any (a : Option Addr) (len cap C : Nat) (hC : 0 < C) (w : World) :
    Calls Tryd.prog 48 #[.slice a len cap, .int .i64 C] w fun e w' => e = .returned (.func (.func 71) #[] #[.pointer (some ⟨w.heap.size, 0, none⟩), .pointer (some ⟨w.heap.size + 1, 0, none⟩)]) ∧ w' = (w.alloc (.cells #[.slice a len cap] 38)).alloc (.cells #[.int .i64 C] 3) := by
  go_enter Tryd.func48, Tryd.ntmps48
  go_wp2
  go_ret
  exact ⟨rfl, rfl⟩
end Go.Proofs.YtlofddoojkeakaaDoor
