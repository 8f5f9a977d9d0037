/- A product of two numbers of four words, row by row; the states of field.mul and field.fold. In plain Lean, and Mul64. | The states of field.fold: what lies above 2^256 counts d times. In plain Lean. -/
import Derived.Test.YtajipagpdphejaaGB3
import Derived.Test.YtajipagpdphejaaGB4
namespace Go.Proofs.Ytajipagpdphejaa
set_option linter.unusedVariables false
set_option linter.unusedSimpArgs false
open Go Go.RowKit

theorem mul64_any (a b : Int) (ha : 0 ≤ a ∧ a < 18446744073709551616) (hb : 0 ≤ b ∧ b < 18446744073709551616) (w : World) :
    Calls Try.prog 71 #[.int .u64 a, .int .u64 b] w fun e w' => e = .returned (.tuple #[.int .u64 (a * b / 18446744073709551616), .int .u64 (a * b % 18446744073709551616)]) ∧ w' = w := by
  obtain ⟨x, rfl⟩ := Int.eq_ofNat_of_zero_le ha.1
  obtain ⟨y, rfl⟩ := Int.eq_ofNat_of_zero_le hb.1
  have := Try.bits_Mul64 x y (by omega) (by omega) w
  simpa using this
/-- the state at the head of a product's row i -/
structure MulSt (x y : Int) (i : Nat) (L : List Int) : Prop where
  len : L.length = 8
  dg : Digs 18446744073709551616 L
  top : ∀ j, i + 4 ≤ j → j < 8 → L.getD j 0 = 0
  val : val 18446744073709551616 L = x % 18446744073709551616 ^ i * y
/-- the state in row i at digit k -/
structure MulIn (x y : Int) (i k : Nat) (L : List Int) (c : Int) : Prop where
  len : L.length = 8
  dg : Digs 18446744073709551616 L
  top : ∀ j, i + 4 ≤ j → j < 8 → L.getD j 0 = 0
  c0 : 0 ≤ c
  c1 : c < 18446744073709551616
  val : val 18446744073709551616 L + c * 18446744073709551616 ^ (i + k) = x % 18446744073709551616 ^ i * y + x / 18446744073709551616 ^ i % 18446744073709551616 * (y % 18446744073709551616 ^ k) * 18446744073709551616 ^ i
theorem zeros_getD (n j : Nat) : (List.replicate n (0 : Int)).getD j 0 = 0 := by
  rw [List.getD, List.getElem?_replicate]; split <;> rfl
theorem MulSt.zero (x y : Int) : MulSt x y 0 (List.replicate 8 0) := ⟨rfl, Digs.zeros (by decide) 8, fun j _ _ => zeros_getD 8 j, by rw [val_zeros]; simp [Int.emod_one]⟩
theorem MulSt.inn {x y : Int} {i : Nat} {L : List Int} (h : MulSt x y i L) : MulIn x y i 0 L 0 := ⟨h.len, h.dg, h.top, by omega, by omega, mul_start h.val⟩
theorem getD_set' (l : List Int) (p j : Nat) (v : Int) (h : p ≠ j) : (l.set p v).getD j 0 = l.getD j 0 := by
  simp only [List.getD, List.getElem?_set_ne h]
theorem MulIn.step {x y : Int} {i k : Nat} {L : List Int} {c c' t' : Int} (h : MulIn x y i k L c) (hi : i < 4) (hk : k < 4) (h0 : 0 ≤ t') (h1 : t' < 18446744073709551616) (h2 : 0 ≤ c') (h3 : c' < 18446744073709551616)
    (e : t' + 18446744073709551616 * c' = (words x).getD i 0 * (words y).getD k 0 + c + L.getD (i + k) 0) : MulIn x y i (k + 1) (L.set (i + k) t') c' where
  len := by rw [List.length_set]; exact h.len
  dg := h.dg.set _ h0 h1
  top := fun j hj hj' => by rw [getD_set' _ _ _ _ (by omega)]; exact h.top j hj hj'
  c0 := h2
  c1 := h3
  val := by
    rw [words_getD' _ _ hi, words_getD' _ _ hk] at e
    exact mul_step (by decide) (by rw [h.len]; omega) rfl h.val e
theorem B64_four : (18446744073709551616 : Int) ^ 4 = 115792089237316195423570985008687907853269984665640564039457584007913129639936 := by decide
theorem MulIn.out {x y : Int} {i : Nat} {L : List Int} {c : Int} (h : MulIn x y i 4 L c) (hi : i < 4) (hy : U256 y) : MulSt x y (i + 1) (L.set (i + 4) c) where
  len := by rw [List.length_set]; exact h.len
  dg := h.dg.set _ h.c0 h.c1
  top := fun j hj hj' => by rw [getD_set' _ _ _ _ (by omega)]; exact h.top j (by omega) hj'
  val := mul_row (by decide) (by rw [h.len]; omega) (h.top _ (by omega) (by omega)) hy.1 (by rw [B64_four]; exact hy.2) h.val
theorem MulSt.done {x y : Int} {L : List Int} (h : MulSt x y 4 L) (hx : U256 x) : _root_.Go.Proofs.Ytajipagpdphejaa.val 18446744073709551616 L = x * y := by
  rw [h.val, B64_four, Int.emod_eq_of_lt hx.1 hx.2]
/-- the memory of field.mul -/
def MulMem (w wr : World) (p : Nat) (X Y L : List Int) (Z : List Value) : Prop := Keeps w wr ∧ Row wr p 0 (X.map (Value.int .u64)) ∧ Row wr (p + 1) 0 (Y.map (Value.int .u64)) ∧ Row wr (p + 1 + 1) 0 Z ∧ Row wr (p + 1 + 1 + 1) 0 (L.map (Value.int .u64))
/-- seven cells that are a field: the modulus, and what 2^256 is above it -/
structure Fld (m : Int) (F : List Int) : Prop where
  len : F.length = 7
  m4 : F.take 4 = words m
  dg : Digs 18446744073709551616 (F.drop 4)
  mU : U256 m
  dv : val 18446744073709551616 (F.drop 4) + m = 115792089237316195423570985008687907853269984665640564039457584007913129639936
  two : 115792089237316195423570985008687907853269984665640564039457584007913129639936 < 2 * m
theorem fld_p : Fld PV pCells := ⟨rfl, pCells_m, by intro x hx; simp [pCells] at hx; omega, PV_u256, by decide, by decide⟩
theorem fld_n : Fld NV nCells := ⟨rfl, nCells_m, by intro x hx; simp [nCells] at hx; omega, NV_u256, by decide, by decide⟩
structure FoldSt (m V : Int) (L : List Int) : Prop where
  len : L.length = 8
  dg : Digs 18446744073709551616 L
  val : val 18446744073709551616 L % m = V % m
structure FoldI (lo Hn d : Int) (i : Nat) (L : List Int) : Prop where
  len : L.length = 8
  dg : Digs 18446744073709551616 L
  val : val 18446744073709551616 L = lo + Hn % 18446744073709551616 ^ i * d
structure FoldIn (lo Hn d : Int) (i k : Nat) (L : List Int) (c : Int) : Prop where
  len : L.length = 8
  dg : Digs 18446744073709551616 L
  c0 : 0 ≤ c
  c1 : c < 18446744073709551616
  val : val 18446744073709551616 L + c * 18446744073709551616 ^ (i + k) = lo + Hn % 18446744073709551616 ^ i * d + Hn / 18446744073709551616 ^ i % 18446744073709551616 * (d % 18446744073709551616 ^ k) * 18446744073709551616 ^ i
structure FoldC (C : Int) (k : Nat) (L : List Int) (c : Int) : Prop where
  len : L.length = 8
  dg : Digs 18446744073709551616 L
  c0 : 0 ≤ c
  c1 : c < 18446744073709551616
  val : val 18446744073709551616 L + c * 18446744073709551616 ^ k = C
  top : C < 18446744073709551616 ^ 8
theorem FoldI.inn {lo Hn d : Int} {i : Nat} {L : List Int} (h : FoldI lo Hn d i L) : FoldIn lo Hn d i 0 L 0 := ⟨h.len, h.dg, by omega, by omega, mul_start h.val⟩
theorem FoldIn.step {lo Hn d a b : Int} {i k : Nat} {L : List Int} {c c' t' : Int} (h : FoldIn lo Hn d i k L c) (hi : i < 4) (hk : k < 3) (ha : a = Hn / 18446744073709551616 ^ i % 18446744073709551616) (hb : b = d / 18446744073709551616 ^ k % 18446744073709551616)
    (h0 : 0 ≤ t') (h1 : t' < 18446744073709551616) (h2 : 0 ≤ c') (h3 : c' < 18446744073709551616)
    (e : t' + 18446744073709551616 * c' = a * b + c + L.getD (i + k) 0) : FoldIn lo Hn d i (k + 1) (L.set (i + k) t') c' where
  len := by rw [List.length_set]; exact h.len
  dg := h.dg.set _ h0 h1
  c0 := h2
  c1 := h3
  val := by
    rw [ha] at e
    exact mul_step (by decide) (by rw [h.len]; omega) hb h.val e
theorem fold_top {lo Hn d : Int} (h0 : 0 ≤ lo) (h1 : lo < 18446744073709551616 ^ 4) (h2 : 0 ≤ Hn) (h3 : Hn < 18446744073709551616 ^ 4) (h4 : 0 ≤ d) (h5 : d < 18446744073709551616 ^ 3) (i : Nat) : lo + Hn % 18446744073709551616 ^ i * d < 18446744073709551616 ^ 8 := by
  have hp := B64_pos i
  have e1 := Int.emod_nonneg Hn (Int.ne_of_gt hp)
  have e2 : Hn % 18446744073709551616 ^ i ≤ Hn := by
    have e := Int.emod_add_mul_ediv Hn (18446744073709551616 ^ i)
    have : 0 ≤ 18446744073709551616 ^ i * (Hn / 18446744073709551616 ^ i) := Int.mul_nonneg (Int.le_of_lt hp) (Int.ediv_nonneg h2 (Int.le_of_lt hp))
    omega
  have e3 : Hn % 18446744073709551616 ^ i * d ≤ (18446744073709551616 ^ 4 - 1) * (18446744073709551616 ^ 3 - 1) := Int.le_trans (Int.mul_le_mul_of_nonneg_right (show _ ≤ 18446744073709551616 ^ 4 - 1 by omega) h4) (Int.mul_le_mul_of_nonneg_left (by omega) (by decide))
  have e4 : (18446744073709551616 ^ 4 : Int) + (18446744073709551616 ^ 4 - 1) * (18446744073709551616 ^ 3 - 1) ≤ 18446744073709551616 ^ 8 := by decide
  omega
theorem FoldIn.out {lo Hn d : Int} {i : Nat} {L : List Int} {c : Int} (h : FoldIn lo Hn d i 3 L c) (h0 : 0 ≤ lo) (h1 : lo < 18446744073709551616 ^ 4) (h2 : 0 ≤ Hn) (h3 : Hn < 18446744073709551616 ^ 4) (h4 : 0 ≤ d) (h5 : d < 18446744073709551616 ^ 3) :
    FoldC (lo + Hn % 18446744073709551616 ^ (i + 1) * d) (i + 3) L c where
  len := h.len
  dg := h.dg
  c0 := h.c0
  c1 := h.c1
  top := fold_top h0 h1 h2 h3 h4 h5 _
  val := by
    rw [h.val, Int.emod_eq_of_lt h4 h5, emod_pow_succ Hn _ (by decide) i, Int.add_mul]
    have : Hn / 18446744073709551616 ^ i % 18446744073709551616 * d * 18446744073709551616 ^ i = 18446744073709551616 ^ i * (Hn / 18446744073709551616 ^ i % 18446744073709551616) * d := by
      rw [Int.mul_comm (_ * d), Int.mul_assoc]
    rw [this]; omega
theorem FoldC.step {C : Int} {k : Nat} {L : List Int} {c c' t' : Int} (h : FoldC C k L c) (hk : k < 8) (h0 : 0 ≤ t') (h1 : t' < 18446744073709551616) (h2 : 0 ≤ c') (h3 : c' < 18446744073709551616)
    (e : t' + 18446744073709551616 * c' = L.getD k 0 + c) : FoldC C (k + 1) (L.set k t') c' :=
  ⟨by rw [List.length_set]; exact h.len, h.dg.set _ h0 h1, h2, h3, carry_step' (by rw [h.len]; omega) h.val e, h.top⟩
theorem FoldC.lt {C : Int} {k : Nat} {L : List Int} {c : Int} (h : FoldC C k L c) (hc : ¬ c = 0) : k < 8 := carry_below (by decide) h.dg h.c0 hc h.val h.top
theorem FoldC.out {lo Hn d : Int} {i k : Nat} {L : List Int} (h : FoldC (lo + Hn % 18446744073709551616 ^ (i + 1) * d) k L 0) : FoldI lo Hn d (i + 1) L := ⟨h.len, h.dg, by rw [← h.val]; omega⟩
theorem list8 {L : List Int} (h : L.length = 8) : ∃ a b c d e f g i, L = [a, b, c, d, e, f, g, i] := by
  match L, h with
  | [a, b, c, d, e, f, g, i], _ => exact ⟨a, b, c, d, e, f, g, i, rfl⟩
/-- a fold's start: the low words alone -/
theorem foldI_start (a b c d e f g i dd : Int) (h : Digs 18446744073709551616 [a, b, c, d, e, f, g, i]) : FoldI (val 18446744073709551616 [a, b, c, d]) (val 18446744073709551616 [e, f, g, i]) dd 0 [a, b, c, d, 0, 0, 0, 0] := by
  refine ⟨rfl, ?_, ?_⟩
  · intro x hx
    simp only [List.mem_cons, List.not_mem_nil, or_false] at hx
    have h2 := h x
    simp only [List.mem_cons, List.not_mem_nil, or_false] at h2
    rcases hx with hx | hx | hx | hx | hx
    · exact h2 (by simp [hx])
    · exact h2 (by simp [hx])
    · exact h2 (by simp [hx])
    · exact h2 (by simp [hx])
    · omega
  · simp [val, Int.emod_one]
theorem val8 (a b c d e f g i : Int) : val 18446744073709551616 [a, b, c, d, e, f, g, i] = val 18446744073709551616 [a, b, c, d] + 115792089237316195423570985008687907853269984665640564039457584007913129639936 * val 18446744073709551616 [e, f, g, i] := by
  simp only [val]; omega
/-- one fold: the same modulo m, and less -/
theorem fold_next {m d V lo Hn : Int} (hd : d + m = 115792089237316195423570985008687907853269984665640564039457584007913129639936) (hm : 0 < m) (h : (lo + 115792089237316195423570985008687907853269984665640564039457584007913129639936 * Hn) % m = V % m) (hH : 0 < Hn) :
    (lo + Hn * d) % m = V % m ∧ lo + Hn * d < lo + 115792089237316195423570985008687907853269984665640564039457584007913129639936 * Hn := by
  rw [← hd] at h ⊢
  have e : (d + m) * Hn = Hn * d + m * Hn := by rw [Int.add_mul, Int.mul_comm d]
  have h1 : 0 < m * Hn := Int.mul_pos hm hH
  refine ⟨?_, by omega⟩
  rw [← h, e, ← Int.add_assoc, Int.add_mul_emod_self_left]
theorem in_mod {m x : Int} (h0 : 0 ≤ x) (h1 : x < 115792089237316195423570985008687907853269984665640564039457584007913129639936) (h2 : 115792089237316195423570985008687907853269984665640564039457584007913129639936 < 2 * m) : (if x < m then x else x - m) = x % m := by
  split
  · rw [Int.emod_eq_of_lt h0 (by omega)]
  · rw [show x = (x - m) + m by omega, Int.add_emod_right, Int.emod_eq_of_lt (by omega) (by omega)]; omega
/-- the memory of field.fold -/
def FoldMem (w wr : World) (p : Nat) (L : List Int) (Z : List Value) : Prop := Keeps w wr ∧ Row wr p 0 (L.map (Value.int .u64)) ∧ Row wr (p + 1) 0 Z
end Go.Proofs.Ytajipagpdphejaa
