/- A product of two numbers of four words, row by row; the states of field.mul and field.fold. In plain Lean, and Mul64. | The states of field.fold: what lies above 2^256 counts d times. In plain Lean. | The states of the reference's minus, Add, Mul and reduce: words of 32 bits. In plain Lean. | The reference's minus, and Mod and Sub. No condition. | The reference's Add and Mul, as far as their call of reduce. No condition. | The reference's Mul, as far as its call of reduce. No condition. | Gates ahead of a walk's arms: each fits one kind of operation by its text alone, so that a law which does not fit fails at once. No condition. | The reference's reduce: a wide number modulo m. No condition. -/
import Derived.Test.YtlofddoojkeakaaDoorGB0
import Derived.Test.YtlofddoojkeakaaDoorGB1
import Derived.Test.YtlofddoojkeakaaDoorGA0
namespace Go.Proofs.YtlofddoojkeakaaDoor
set_option linter.unusedVariables false
set_option linter.unusedSimpArgs false
open Go Go.RowKit

theorem mul64_any (a b : Int) (ha : 0 ≤ a ∧ a < 18446744073709551616) (hb : 0 ≤ b ∧ b < 18446744073709551616) (w : World) :
    Calls Tryd.prog 88 #[.int .u64 a, .int .u64 b] w fun e w' => e = .returned (.tuple #[.int .u64 (a * b / 18446744073709551616), .int .u64 (a * b % 18446744073709551616)]) ∧ w' = w := by
  obtain ⟨x, rfl⟩ := Int.eq_ofNat_of_zero_le ha.1
  obtain ⟨y, rfl⟩ := Int.eq_ofNat_of_zero_le hb.1
  have := Tryd.bits_Mul64 x y (by omega) (by omega) w
  simpa using this
/-- the state at the head of a product's row i -/
structure MulSt (x y : Int) (i : Nat) (L : List Int) : Prop where
  len : L.length = 8
  dg : Digs 18446744073709551616 L
  top : ∀ j, i + 4 ≤ j → j < 8 → L.getD j 0 = 0
  val : val 18446744073709551616 L = x % 18446744073709551616 ^ i * y
/-- the state in row i at digit k -/
structure MulIn (x y : Int) (i k : Nat) (L : List Int) (c : Int) : Prop where
  len : L.length = 8
  dg : Digs 18446744073709551616 L
  top : ∀ j, i + 4 ≤ j → j < 8 → L.getD j 0 = 0
  c0 : 0 ≤ c
  c1 : c < 18446744073709551616
  val : val 18446744073709551616 L + c * 18446744073709551616 ^ (i + k) = x % 18446744073709551616 ^ i * y + x / 18446744073709551616 ^ i % 18446744073709551616 * (y % 18446744073709551616 ^ k) * 18446744073709551616 ^ i
theorem zeros_getD (n j : Nat) : (List.replicate n (0 : Int)).getD j 0 = 0 := by
  rw [List.getD, List.getElem?_replicate]; split <;> rfl
theorem MulSt.zero (x y : Int) : MulSt x y 0 (List.replicate 8 0) := ⟨rfl, Digs.zeros (by decide) 8, fun j _ _ => zeros_getD 8 j, by rw [val_zeros]; simp [Int.emod_one]⟩
theorem MulSt.inn {x y : Int} {i : Nat} {L : List Int} (h : MulSt x y i L) : MulIn x y i 0 L 0 := ⟨h.len, h.dg, h.top, by omega, by omega, mul_start h.val⟩
theorem getD_set' (l : List Int) (p j : Nat) (v : Int) (h : p ≠ j) : (l.set p v).getD j 0 = l.getD j 0 := by
  simp only [List.getD, List.getElem?_set_ne h]
theorem MulIn.step {x y : Int} {i k : Nat} {L : List Int} {c c' t' : Int} (h : MulIn x y i k L c) (hi : i < 4) (hk : k < 4) (h0 : 0 ≤ t') (h1 : t' < 18446744073709551616) (h2 : 0 ≤ c') (h3 : c' < 18446744073709551616)
    (e : t' + 18446744073709551616 * c' = (words x).getD i 0 * (words y).getD k 0 + c + L.getD (i + k) 0) : MulIn x y i (k + 1) (L.set (i + k) t') c' where
  len := by rw [List.length_set]; exact h.len
  dg := h.dg.set _ h0 h1
  top := fun j hj hj' => by rw [getD_set' _ _ _ _ (by omega)]; exact h.top j hj hj'
  c0 := h2
  c1 := h3
  val := by
    rw [words_getD' _ _ hi, words_getD' _ _ hk] at e
    exact mul_step (by decide) (by rw [h.len]; omega) rfl h.val e
theorem B64_four : (18446744073709551616 : Int) ^ 4 = 115792089237316195423570985008687907853269984665640564039457584007913129639936 := by decide
theorem MulIn.out {x y : Int} {i : Nat} {L : List Int} {c : Int} (h : MulIn x y i 4 L c) (hi : i < 4) (hy : U256 y) : MulSt x y (i + 1) (L.set (i + 4) c) where
  len := by rw [List.length_set]; exact h.len
  dg := h.dg.set _ h.c0 h.c1
  top := fun j hj hj' => by rw [getD_set' _ _ _ _ (by omega)]; exact h.top j (by omega) hj'
  val := mul_row (by decide) (by rw [h.len]; omega) (h.top _ (by omega) (by omega)) hy.1 (by rw [B64_four]; exact hy.2) h.val
theorem MulSt.done {x y : Int} {L : List Int} (h : MulSt x y 4 L) (hx : U256 x) : _root_.Go.Proofs.YtlofddoojkeakaaDoor.val 18446744073709551616 L = x * y := by
  rw [h.val, B64_four, Int.emod_eq_of_lt hx.1 hx.2]
/-- the memory of field.mul -/
def MulMem (w wr : World) (p : Nat) (X Y L : List Int) (Z : List Value) : Prop := Keeps w wr ∧ Row wr p 0 (X.map (Value.int .u64)) ∧ Row wr (p + 1) 0 (Y.map (Value.int .u64)) ∧ Row wr (p + 1 + 1) 0 Z ∧ Row wr (p + 1 + 1 + 1) 0 (L.map (Value.int .u64))
/-- seven cells that are a field: the modulus, and what 2^256 is above it -/
structure Fld (m : Int) (F : List Int) : Prop where
  len : F.length = 7
  m4 : F.take 4 = words m
  dg : Digs 18446744073709551616 (F.drop 4)
  mU : U256 m
  dv : val 18446744073709551616 (F.drop 4) + m = 115792089237316195423570985008687907853269984665640564039457584007913129639936
  two : 115792089237316195423570985008687907853269984665640564039457584007913129639936 < 2 * m
theorem fld_p : Fld PV pCells := ⟨rfl, pCells_m, by intro x hx; simp [pCells] at hx; omega, PV_u256, by decide, by decide⟩
structure FoldSt (m V : Int) (L : List Int) : Prop where
  len : L.length = 8
  dg : Digs 18446744073709551616 L
  val : val 18446744073709551616 L % m = V % m
structure FoldI (lo Hn d : Int) (i : Nat) (L : List Int) : Prop where
  len : L.length = 8
  dg : Digs 18446744073709551616 L
  val : val 18446744073709551616 L = lo + Hn % 18446744073709551616 ^ i * d
structure FoldIn (lo Hn d : Int) (i k : Nat) (L : List Int) (c : Int) : Prop where
  len : L.length = 8
  dg : Digs 18446744073709551616 L
  c0 : 0 ≤ c
  c1 : c < 18446744073709551616
  val : val 18446744073709551616 L + c * 18446744073709551616 ^ (i + k) = lo + Hn % 18446744073709551616 ^ i * d + Hn / 18446744073709551616 ^ i % 18446744073709551616 * (d % 18446744073709551616 ^ k) * 18446744073709551616 ^ i
structure FoldC (C : Int) (k : Nat) (L : List Int) (c : Int) : Prop where
  len : L.length = 8
  dg : Digs 18446744073709551616 L
  c0 : 0 ≤ c
  c1 : c < 18446744073709551616
  val : val 18446744073709551616 L + c * 18446744073709551616 ^ k = C
  top : C < 18446744073709551616 ^ 8
theorem FoldI.inn {lo Hn d : Int} {i : Nat} {L : List Int} (h : FoldI lo Hn d i L) : FoldIn lo Hn d i 0 L 0 := ⟨h.len, h.dg, by omega, by omega, mul_start h.val⟩
theorem FoldIn.step {lo Hn d a b : Int} {i k : Nat} {L : List Int} {c c' t' : Int} (h : FoldIn lo Hn d i k L c) (hi : i < 4) (hk : k < 3) (ha : a = Hn / 18446744073709551616 ^ i % 18446744073709551616) (hb : b = d / 18446744073709551616 ^ k % 18446744073709551616)
    (h0 : 0 ≤ t') (h1 : t' < 18446744073709551616) (h2 : 0 ≤ c') (h3 : c' < 18446744073709551616)
    (e : t' + 18446744073709551616 * c' = a * b + c + L.getD (i + k) 0) : FoldIn lo Hn d i (k + 1) (L.set (i + k) t') c' where
  len := by rw [List.length_set]; exact h.len
  dg := h.dg.set _ h0 h1
  c0 := h2
  c1 := h3
  val := by
    rw [ha] at e
    exact mul_step (by decide) (by rw [h.len]; omega) hb h.val e
theorem fold_top {lo Hn d : Int} (h0 : 0 ≤ lo) (h1 : lo < 18446744073709551616 ^ 4) (h2 : 0 ≤ Hn) (h3 : Hn < 18446744073709551616 ^ 4) (h4 : 0 ≤ d) (h5 : d < 18446744073709551616 ^ 3) (i : Nat) : lo + Hn % 18446744073709551616 ^ i * d < 18446744073709551616 ^ 8 := by
  have hp := B64_pos i
  have e1 := Int.emod_nonneg Hn (Int.ne_of_gt hp)
  have e2 : Hn % 18446744073709551616 ^ i ≤ Hn := by
    have e := Int.emod_add_mul_ediv Hn (18446744073709551616 ^ i)
    have : 0 ≤ 18446744073709551616 ^ i * (Hn / 18446744073709551616 ^ i) := Int.mul_nonneg (Int.le_of_lt hp) (Int.ediv_nonneg h2 (Int.le_of_lt hp))
    omega
  have e3 : Hn % 18446744073709551616 ^ i * d ≤ (18446744073709551616 ^ 4 - 1) * (18446744073709551616 ^ 3 - 1) := Int.le_trans (Int.mul_le_mul_of_nonneg_right (show _ ≤ 18446744073709551616 ^ 4 - 1 by omega) h4) (Int.mul_le_mul_of_nonneg_left (by omega) (by decide))
  have e4 : (18446744073709551616 ^ 4 : Int) + (18446744073709551616 ^ 4 - 1) * (18446744073709551616 ^ 3 - 1) ≤ 18446744073709551616 ^ 8 := by decide
  omega
theorem FoldIn.out {lo Hn d : Int} {i : Nat} {L : List Int} {c : Int} (h : FoldIn lo Hn d i 3 L c) (h0 : 0 ≤ lo) (h1 : lo < 18446744073709551616 ^ 4) (h2 : 0 ≤ Hn) (h3 : Hn < 18446744073709551616 ^ 4) (h4 : 0 ≤ d) (h5 : d < 18446744073709551616 ^ 3) :
    FoldC (lo + Hn % 18446744073709551616 ^ (i + 1) * d) (i + 3) L c where
  len := h.len
  dg := h.dg
  c0 := h.c0
  c1 := h.c1
  top := fold_top h0 h1 h2 h3 h4 h5 _
  val := by
    rw [h.val, Int.emod_eq_of_lt h4 h5, emod_pow_succ Hn _ (by decide) i, Int.add_mul]
    have : Hn / 18446744073709551616 ^ i % 18446744073709551616 * d * 18446744073709551616 ^ i = 18446744073709551616 ^ i * (Hn / 18446744073709551616 ^ i % 18446744073709551616) * d := by
      rw [Int.mul_comm (_ * d), Int.mul_assoc]
    rw [this]; omega
theorem FoldC.step {C : Int} {k : Nat} {L : List Int} {c c' t' : Int} (h : FoldC C k L c) (hk : k < 8) (h0 : 0 ≤ t') (h1 : t' < 18446744073709551616) (h2 : 0 ≤ c') (h3 : c' < 18446744073709551616)
    (e : t' + 18446744073709551616 * c' = L.getD k 0 + c) : FoldC C (k + 1) (L.set k t') c' :=
  ⟨by rw [List.length_set]; exact h.len, h.dg.set _ h0 h1, h2, h3, carry_step' (by rw [h.len]; omega) h.val e, h.top⟩
theorem FoldC.lt {C : Int} {k : Nat} {L : List Int} {c : Int} (h : FoldC C k L c) (hc : ¬ c = 0) : k < 8 := carry_below (by decide) h.dg h.c0 hc h.val h.top
theorem FoldC.out {lo Hn d : Int} {i k : Nat} {L : List Int} (h : FoldC (lo + Hn % 18446744073709551616 ^ (i + 1) * d) k L 0) : FoldI lo Hn d (i + 1) L := ⟨h.len, h.dg, by rw [← h.val]; omega⟩
theorem list8 {L : List Int} (h : L.length = 8) : ∃ a b c d e f g i, L = [a, b, c, d, e, f, g, i] := by
  match L, h with
  | [a, b, c, d, e, f, g, i], _ => exact ⟨a, b, c, d, e, f, g, i, rfl⟩
/-- a fold's start: the low words alone -/
theorem foldI_start (a b c d e f g i dd : Int) (h : Digs 18446744073709551616 [a, b, c, d, e, f, g, i]) : FoldI (val 18446744073709551616 [a, b, c, d]) (val 18446744073709551616 [e, f, g, i]) dd 0 [a, b, c, d, 0, 0, 0, 0] := by
  refine ⟨rfl, ?_, ?_⟩
  · intro x hx
    simp only [List.mem_cons, List.not_mem_nil, or_false] at hx
    have h2 := h x
    simp only [List.mem_cons, List.not_mem_nil, or_false] at h2
    rcases hx with hx | hx | hx | hx | hx
    · exact h2 (by simp [hx])
    · exact h2 (by simp [hx])
    · exact h2 (by simp [hx])
    · exact h2 (by simp [hx])
    · omega
  · simp [val, Int.emod_one]
theorem val8 (a b c d e f g i : Int) : val 18446744073709551616 [a, b, c, d, e, f, g, i] = val 18446744073709551616 [a, b, c, d] + 115792089237316195423570985008687907853269984665640564039457584007913129639936 * val 18446744073709551616 [e, f, g, i] := by
  simp only [val]; omega
/-- one fold: the same modulo m, and less -/
theorem fold_next {m d V lo Hn : Int} (hd : d + m = 115792089237316195423570985008687907853269984665640564039457584007913129639936) (hm : 0 < m) (h : (lo + 115792089237316195423570985008687907853269984665640564039457584007913129639936 * Hn) % m = V % m) (hH : 0 < Hn) :
    (lo + Hn * d) % m = V % m ∧ lo + Hn * d < lo + 115792089237316195423570985008687907853269984665640564039457584007913129639936 * Hn := by
  rw [← hd] at h ⊢
  have e : (d + m) * Hn = Hn * d + m * Hn := by rw [Int.add_mul, Int.mul_comm d]
  have h1 : 0 < m * Hn := Int.mul_pos hm hH
  refine ⟨?_, by omega⟩
  rw [← h, e, ← Int.add_assoc, Int.add_mul_emod_self_left]
theorem in_mod {m x : Int} (h0 : 0 ≤ x) (h1 : x < 115792089237316195423570985008687907853269984665640564039457584007913129639936) (h2 : 115792089237316195423570985008687907853269984665640564039457584007913129639936 < 2 * m) : (if x < m then x else x - m) = x % m := by
  split
  · rw [Int.emod_eq_of_lt h0 (by omega)]
  · rw [show x = (x - m) + m by omega, Int.add_emod_right, Int.emod_eq_of_lt (by omega) (by omega)]; omega
/-- the memory of field.fold -/
def FoldMem (w wr : World) (p : Nat) (L : List Int) (Z : List Value) : Prop := Keeps w wr ∧ Row wr p 0 (L.map (Value.int .u64)) ∧ Row wr (p + 1) 0 Z
theorem emod32_succ (x : Int) (i : Nat) : x % 4294967296 ^ (i + 1) = x % 4294967296 ^ i + 4294967296 ^ i * (x / 4294967296 ^ i % 4294967296) := emod_pow_succ x 4294967296 (by decide) i
theorem B32_eight : (4294967296 : Int) ^ 8 = 115792089237316195423570985008687907853269984665640564039457584007913129639936 := by decide
theorem words8_mod (v : Int) : words8 v = words8 (v % 115792089237316195423570985008687907853269984665640564039457584007913129639936) := by
  have := words8_val (B32_digs v) (words8_length v)
  rwa [val_words8] at this
/-- a difference, word by word -/
structure MinSt (x y : Int) (i : Nat) (L : List Int) (b : Int) : Prop where
  len : L.length = 8
  dg : Digs 4294967296 L
  top : ∀ j, i ≤ j → j < 8 → L.getD j 0 = 0
  b0 : 0 ≤ b
  b1 : b ≤ 1
  val : val 4294967296 L = x % 4294967296 ^ i - y % 4294967296 ^ i + b * 4294967296 ^ i
theorem MinSt.zero (x y : Int) : MinSt x y 0 (List.replicate 8 0) 0 := ⟨rfl, Digs.zeros (by decide) 8, fun j _ _ => zeros_getD 8 j, by omega, by omega, by rw [val_zeros]; simp [Int.emod_one]⟩
theorem MinSt.step {x y : Int} {i : Nat} {L : List Int} {b b' t' : Int} (h : MinSt x y i L b) (hi : i < 8) (h0 : 0 ≤ t') (h1 : t' < 4294967296) (hb0 : 0 ≤ b') (hb1 : b' ≤ 1)
    (e : t' = (words8 x).getD i 0 - (words8 y).getD i 0 - b + 4294967296 * b') : MinSt x y (i + 1) (L.set i t') b' where
  len := by rw [List.length_set]; exact h.len
  dg := h.dg.set _ h0 h1
  top := fun j hj hj' => by rw [getD_set' _ _ _ _ (by omega)]; exact h.top j (by omega) hj'
  b0 := hb0
  b1 := hb1
  val := by
    rw [val_set _ _ _ _ (by rw [h.len]; exact hi), h.top i (by omega) hi, h.val, emod32_succ x, emod32_succ y, e, words8_getD _ _ hi, words8_getD _ _ hi, Int.pow_succ]
    generalize (4294967296 : Int) ^ i = P
    generalize x / P % 4294967296 = a
    generalize y / P % 4294967296 = c
    generalize x % P = u
    generalize y % P = v
    rw [Int.mul_comm P a, Int.mul_comm P c, Int.sub_zero, Int.add_mul, Int.sub_mul, Int.sub_mul, Int.mul_comm P 4294967296, ← Int.mul_assoc, Int.mul_comm b' 4294967296]
    omega
theorem MinSt.done {x y : Int} {L : List Int} {b : Int} (h : MinSt x y 8 L b) (hx : U256 x) (hy : U256 y) : L = words8 (x - y) := by
  have hr := val_range (by decide) h.dg
  rw [h.len, B32_eight] at hr
  have hv := h.val
  rw [B32_eight, Int.emod_eq_of_lt hx.1 hx.2, Int.emod_eq_of_lt hy.1 hy.2] at hv
  have e := words8_val h.dg h.len
  have e2 := words8_mod (x - y)
  have h0 := h.b0; have h1 := h.b1
  have : _root_.Go.Proofs.YtlofddoojkeakaaDoor.val 4294967296 L = (x - y) % 115792089237316195423570985008687907853269984665640564039457584007913129639936 := by omega
  rw [e, this, ← e2]
/-- a sum in a wide number -/
structure AddSt (x y : Int) (i : Nat) (L : List Int) (c : Int) : Prop where
  len : L.length = 17
  dg : Digs 4294967296 L
  top : ∀ j, i ≤ j → j < 17 → L.getD j 0 = 0
  b0 : 0 ≤ c
  b1 : c ≤ 1
  val : val 4294967296 L + c * 4294967296 ^ i = x % 4294967296 ^ i + y % 4294967296 ^ i
theorem AddSt.zero (x y : Int) : AddSt x y 0 (List.replicate 17 0) 0 := ⟨rfl, Digs.zeros (by decide) 17, fun j _ _ => zeros_getD 17 j, by omega, by omega, by rw [val_zeros]; simp [Int.emod_one]⟩
theorem AddSt.step {x y : Int} {i : Nat} {L : List Int} {c c' t' : Int} (h : AddSt x y i L c) (hi : i < 8) (h0 : 0 ≤ t') (h1 : t' < 4294967296) (hb0 : 0 ≤ c') (hb1 : c' ≤ 1)
    (e : t' + 4294967296 * c' = (words8 x).getD i 0 + (words8 y).getD i 0 + c) : AddSt x y (i + 1) (L.set i t') c' where
  len := by rw [List.length_set]; exact h.len
  dg := h.dg.set _ h0 h1
  top := fun j hj hj' => by rw [getD_set' _ _ _ _ (by omega)]; exact h.top j (by omega) hj'
  b0 := hb0
  b1 := hb1
  val := by
    have hv := h.val
    rw [val_set _ _ _ _ (by rw [h.len]; omega), h.top i (by omega) (by omega), emod32_succ x, emod32_succ y, Int.pow_succ]
    rw [words8_getD _ _ hi, words8_getD _ _ hi] at e
    generalize (4294967296 : Int) ^ i = P at *
    generalize x / P % 4294967296 = a at *
    generalize y / P % 4294967296 = d at *
    generalize x % P = u at *
    generalize y % P = v at *
    have e1 : (t' + 4294967296 * c') * P = (a + d + c) * P := by rw [e]
    simp only [Int.add_mul] at e1
    have e2 : 4294967296 * c' * P = c' * (P * 4294967296) := by rw [Int.mul_comm P, ← Int.mul_assoc, Int.mul_comm c']
    rw [Int.mul_comm P a, Int.mul_comm P d, Int.sub_zero]
    omega
theorem AddSt.done {x y : Int} {L : List Int} {c : Int} (h : AddSt x y 8 L c) (hx : U256 x) (hy : U256 y) : (L.set 8 c).length = 17 ∧ Digs 4294967296 (L.set 8 c) ∧ _root_.Go.Proofs.YtlofddoojkeakaaDoor.val 4294967296 (L.set 8 c) = x + y := by
  have h0 := h.b0; have h1 := h.b1
  refine ⟨by rw [List.length_set]; exact h.len, h.dg.set _ h0 (by omega), ?_⟩
  have hv := h.val
  rw [Int.emod_eq_of_lt hx.1 (by rw [B32_eight]; exact hx.2), Int.emod_eq_of_lt hy.1 (by rw [B32_eight]; exact hy.2)] at hv
  rw [val_set _ _ _ _ (by rw [h.len]; omega), h.top 8 (by omega) (by omega), Int.sub_zero, hv]
/-- a product -/
structure RMulSt (x y : Int) (i : Nat) (L : List Int) : Prop where
  len : L.length = 17
  dg : Digs 4294967296 L
  top : ∀ j, i + 8 ≤ j → j < 17 → L.getD j 0 = 0
  val : val 4294967296 L = x % 4294967296 ^ i * y
structure RMulIn (x y : Int) (i k : Nat) (L : List Int) (c : Int) : Prop where
  len : L.length = 17
  dg : Digs 4294967296 L
  top : ∀ j, i + 8 ≤ j → j < 17 → L.getD j 0 = 0
  c0 : 0 ≤ c
  c1 : c < 4294967296
  val : val 4294967296 L + c * 4294967296 ^ (i + k) = x % 4294967296 ^ i * y + x / 4294967296 ^ i % 4294967296 * (y % 4294967296 ^ k) * 4294967296 ^ i
theorem RMulSt.zero (x y : Int) : RMulSt x y 0 (List.replicate 17 0) := ⟨rfl, Digs.zeros (by decide) 17, fun j _ _ => zeros_getD 17 j, by rw [val_zeros]; simp [Int.emod_one]⟩
theorem RMulSt.inn {x y : Int} {i : Nat} {L : List Int} (h : RMulSt x y i L) : RMulIn x y i 0 L 0 := ⟨h.len, h.dg, h.top, by omega, by omega, mul_start h.val⟩
theorem RMulIn.step {x y : Int} {i k : Nat} {L : List Int} {c c' t' : Int} (h : RMulIn x y i k L c) (hi : i < 8) (hk : k < 8) (h0 : 0 ≤ t') (h1 : t' < 4294967296) (h2 : 0 ≤ c') (h3 : c' < 4294967296)
    (e : t' + 4294967296 * c' = (words8 x).getD i 0 * (words8 y).getD k 0 + c + L.getD (i + k) 0) : RMulIn x y i (k + 1) (L.set (i + k) t') c' where
  len := by rw [List.length_set]; exact h.len
  dg := h.dg.set _ h0 h1
  top := fun j hj hj' => by rw [getD_set' _ _ _ _ (by omega)]; exact h.top j hj hj'
  c0 := h2
  c1 := h3
  val := by
    rw [words8_getD _ _ hi, words8_getD _ _ hk] at e
    exact mul_step (by decide) (by rw [h.len]; omega) rfl h.val e
theorem RMulIn.out {x y : Int} {i : Nat} {L : List Int} {c : Int} (h : RMulIn x y i 8 L c) (hi : i < 8) (hy : U256 y) : RMulSt x y (i + 1) (L.set (i + 8) c) where
  len := by rw [List.length_set]; exact h.len
  dg := h.dg.set _ h.c0 h.c1
  top := fun j hj hj' => by rw [getD_set' _ _ _ _ (by omega)]; exact h.top j (by omega) hj'
  val := mul_row (by decide) (by rw [h.len]; omega) (h.top _ (by omega) (by omega)) hy.1 (by rw [B32_eight]; exact hy.2) h.val
theorem RMulSt.done {x y : Int} {L : List Int} (h : RMulSt x y 8 L) (hx : U256 x) : _root_.Go.Proofs.YtlofddoojkeakaaDoor.val 4294967296 L = x * y := by
  rw [h.val, B32_eight, Int.emod_eq_of_lt hx.1 hx.2]
/-- a part of a list written over another -/
def mixL (a b : List Int) (i : Nat) : List Int := a.take i ++ b.drop i
theorem mixL_length {a b : List Int} {i : Nat} (h : i ≤ a.length) (h' : i ≤ b.length) : (mixL a b i).length = b.length := by simp [mixL]; omega
/-- a modulus for the reference: what 2^256 is above it is small -/
structure RMod (m : Int) : Prop where
  u : U256 m
  d : 115792089237316195423570985008687907853269984665640564039457584007913129639936 - m < 1361129467683753853853498429727072845824
theorem RMod.two {m : Int} (h : RMod m) : 115792089237316195423570985008687907853269984665640564039457584007913129639936 < 2 * m := by have := h.d; omega
/-- how great the number may be at the head of reduce's round k -/
def redB : Nat → Int
  | 0 => 13407807929942597099574024998205846127479365820592393377723561443721764030073546976801874298166903427690031858186486050853753882811946569946433649006084096
  | 1 => 315216049571155833698232320801148910440637914163723573343586347233965774171977684891314130039079325126453023922454528
  | 2 => 7410693711188236507108543040556026102609279018600996098525285376506440296955904
  | 3 => 115792089237316195423570985008687907940382270597400810686081483510445791772672
  | _ => 115792089237316195423570985008687907853269984665640564039457584007913129639936
structure RedSt (m V : Int) (k : Nat) (L : List Int) : Prop where
  len : L.length = 17
  dg : Digs 4294967296 L
  val : val 4294967296 L % m = V % m
  top : _root_.Go.Proofs.YtlofddoojkeakaaDoor.val 4294967296 L < redB k
theorem RedSt.split {m V : Int} {k : Nat} {L : List Int} (h : RedSt m V k L) : _root_.Go.Proofs.YtlofddoojkeakaaDoor.val 4294967296 L = _root_.Go.Proofs.YtlofddoojkeakaaDoor.val 4294967296 (L.take 8) + 115792089237316195423570985008687907853269984665640564039457584007913129639936 * _root_.Go.Proofs.YtlofddoojkeakaaDoor.val 4294967296 (L.drop 8) := by
  rw [val_split _ _ 8 (by rw [h.len]; omega), B32_eight]
theorem RedSt.lo {m V : Int} {k : Nat} {L : List Int} (h : RedSt m V k L) : U256 (_root_.Go.Proofs.YtlofddoojkeakaaDoor.val 4294967296 (L.take 8)) := by
  have := val_range (B := 4294967296) (by decide) (h.dg.take 8)
  rw [List.length_take, h.len, show min 8 17 = 8 from rfl, B32_eight] at this
  exact this
theorem RedSt.hi {m V : Int} {k : Nat} {L : List Int} (h : RedSt m V k L) : 0 ≤ _root_.Go.Proofs.YtlofddoojkeakaaDoor.val 4294967296 (L.drop 8) ∧ _root_.Go.Proofs.YtlofddoojkeakaaDoor.val 4294967296 (L.drop 8) < 4294967296 ^ 9 := by
  have := val_range (B := 4294967296) (by decide) (h.dg.drop 8)
  rw [List.length_drop, h.len] at this
  exact this
/-- is a word above the eighth not 0? -/
def HiF (L : List Int) (i : Nat) (F : Bool) : Prop := if F = true then ∃ j, 8 ≤ j ∧ j < i ∧ L.getD j 0 ≠ 0 else ∀ j, 8 ≤ j → j < i → L.getD j 0 = 0
theorem HiF.zero (L : List Int) : HiF L 8 false := by
  unfold HiF
  rw [if_neg (by decide)]
  intro j h h'; omega
theorem HiF.no {L : List Int} {i : Nat} (hi : 8 ≤ i) (h : HiF L i false) : HiF L (i + 1) (L.getD i 0 != 0) := by
  unfold HiF at *
  rw [if_neg (by decide)] at h
  by_cases hc : L.getD i 0 = 0
  · rw [if_neg (by simpa using hc)]
    intro j h1 h2
    by_cases hj : j = i
    · rw [hj]; exact hc
    · exact h j h1 (by omega)
  · rw [if_pos (by simpa using hc)]
    exact ⟨i, hi, by omega, hc⟩
/-- reduce's inner rows -/
structure RedI (lo Hn d : Int) (i : Nat) (L : List Int) : Prop where
  len : L.length = 17
  dg : Digs 4294967296 L
  val : val 4294967296 L = lo + Hn % 4294967296 ^ i * d
structure RedIn (lo Hn d : Int) (i k : Nat) (L : List Int) (c : Int) : Prop where
  len : L.length = 17
  dg : Digs 4294967296 L
  c0 : 0 ≤ c
  c1 : c < 4294967296
  val : val 4294967296 L + c * 4294967296 ^ (i + k) = lo + Hn % 4294967296 ^ i * d + Hn / 4294967296 ^ i % 4294967296 * (d % 4294967296 ^ k) * 4294967296 ^ i
structure RedC (C : Int) (k : Nat) (L : List Int) (c : Int) : Prop where
  len : L.length = 17
  dg : Digs 4294967296 L
  c0 : 0 ≤ c
  c1 : c < 4294967296
  val : val 4294967296 L + c * 4294967296 ^ k = C
  top : C < 4294967296 ^ 17
theorem RedI.inn {lo Hn d : Int} {i : Nat} {L : List Int} (h : RedI lo Hn d i L) : RedIn lo Hn d i 0 L 0 := ⟨h.len, h.dg, by omega, by omega, mul_start h.val⟩
theorem RedIn.step {lo Hn d a b : Int} {i k : Nat} {L : List Int} {c c' t' : Int} (h : RedIn lo Hn d i k L c) (hi : i < 9) (hk : k < 8) (ha : a = Hn / 4294967296 ^ i % 4294967296) (hb : b = d / 4294967296 ^ k % 4294967296)
    (h0 : 0 ≤ t') (h1 : t' < 4294967296) (h2 : 0 ≤ c') (h3 : c' < 4294967296)
    (e : t' + 4294967296 * c' = a * b + c + L.getD (i + k) 0) : RedIn lo Hn d i (k + 1) (L.set (i + k) t') c' where
  len := by rw [List.length_set]; exact h.len
  dg := h.dg.set _ h0 h1
  c0 := h2
  c1 := h3
  val := by
    rw [ha] at e
    exact mul_step (by decide) (by rw [h.len]; omega) hb h.val e
theorem red_top {lo Hn d : Int} (h0 : 0 ≤ lo) (h1 : lo < 4294967296 ^ 8) (h2 : 0 ≤ Hn) (h3 : Hn < 4294967296 ^ 9) (h4 : 0 ≤ d) (h5 : d < 1361129467683753853853498429727072845824) (i : Nat) : lo + Hn % 4294967296 ^ i * d < 4294967296 ^ 17 := by
  have hp := B32_pos i
  have e1 := Int.emod_nonneg Hn (Int.ne_of_gt hp)
  have e2 : Hn % 4294967296 ^ i ≤ Hn := by
    have e := Int.emod_add_mul_ediv Hn (4294967296 ^ i)
    have : 0 ≤ 4294967296 ^ i * (Hn / 4294967296 ^ i) := Int.mul_nonneg (Int.le_of_lt hp) (Int.ediv_nonneg h2 (Int.le_of_lt hp))
    omega
  have e3 : Hn % 4294967296 ^ i * d ≤ (4294967296 ^ 9 - 1) * 1361129467683753853853498429727072845824 := Int.le_trans (Int.mul_le_mul_of_nonneg_right (show _ ≤ 4294967296 ^ 9 - 1 by omega) h4) (Int.mul_le_mul_of_nonneg_left (by omega) (by decide))
  have e4 : (4294967296 ^ 8 : Int) + (4294967296 ^ 9 - 1) * 1361129467683753853853498429727072845824 ≤ 4294967296 ^ 17 := by decide
  omega
theorem RedIn.out {lo Hn d : Int} {i : Nat} {L : List Int} {c : Int} (h : RedIn lo Hn d i 8 L c) (h0 : 0 ≤ lo) (h1 : lo < 4294967296 ^ 8) (h2 : 0 ≤ Hn) (h3 : Hn < 4294967296 ^ 9) (h4 : 0 ≤ d) (h5 : d < 1361129467683753853853498429727072845824) :
    RedC (lo + Hn % 4294967296 ^ (i + 1) * d) (i + 8) L c where
  len := h.len
  dg := h.dg
  c0 := h.c0
  c1 := h.c1
  top := red_top h0 h1 h2 h3 h4 h5 _
  val := by
    rw [h.val, Int.emod_eq_of_lt h4 (Int.lt_trans h5 (by decide)), emod32_succ Hn i, Int.add_mul]
    have : Hn / 4294967296 ^ i % 4294967296 * d * 4294967296 ^ i = 4294967296 ^ i * (Hn / 4294967296 ^ i % 4294967296) * d := by
      rw [Int.mul_comm (_ * d), Int.mul_assoc]
    rw [this]; omega
theorem RedC.step {C : Int} {k : Nat} {L : List Int} {c c' t' : Int} (h : RedC C k L c) (hk : k < 17) (h0 : 0 ≤ t') (h1 : t' < 4294967296) (h2 : 0 ≤ c') (h3 : c' < 4294967296)
    (e : t' + 4294967296 * c' = L.getD k 0 + c) : RedC C (k + 1) (L.set k t') c' :=
  ⟨by rw [List.length_set]; exact h.len, h.dg.set _ h0 h1, h2, h3, carry_step' (by rw [h.len]; omega) h.val e, h.top⟩
theorem RedC.lt {C : Int} {k : Nat} {L : List Int} {c : Int} (h : RedC C k L c) (hc : ¬ c = 0) : k < 17 := carry_below (by decide) h.dg h.c0 hc h.val h.top
theorem RedC.out {lo Hn d : Int} {i k : Nat} {L : List Int} (h : RedC (lo + Hn % 4294967296 ^ (i + 1) * d) k L 0) : RedI lo Hn d (i + 1) L := ⟨h.len, h.dg, by rw [← h.val]; omega⟩
/-- the next round's number is the same modulo m, and small enough -/
theorem RedI.next {m V lo Hn : Int} {k : Nat} {L N : List Int} (h : RedI lo Hn (115792089237316195423570985008687907853269984665640564039457584007913129639936 - m) 9 N) (hm : RMod m) (hs : RedSt m V k L) (hlo : lo = _root_.Go.Proofs.YtlofddoojkeakaaDoor.val 4294967296 (L.take 8)) (hhi : Hn = _root_.Go.Proofs.YtlofddoojkeakaaDoor.val 4294967296 (L.drop 8)) (hp : 0 < Hn) : k < 4 ∧ RedSt m V (k + 1) N := by
  have h2 := hs.hi
  have hl := hs.lo
  have hsp := hs.split
  have htop := hs.top
  have hval := hs.val
  rw [← hlo, ← hhi] at hsp
  rw [← hhi] at h2
  rw [← hlo] at hl
  have hv := h.val
  rw [Int.emod_eq_of_lt h2.1 h2.2] at hv
  have h0 : 0 ≤ 115792089237316195423570985008687907853269984665640564039457584007913129639936 - m := by have := hm.u.2; omega
  have h1 := hm.d
  rw [hsp] at hval htop
  obtain ⟨f1, f2⟩ := fold_next (d := 115792089237316195423570985008687907853269984665640564039457584007913129639936 - m) (by omega) (by have := hm.two; omega) hval hp
  have hk : k < 4 := by
    refine Nat.lt_of_not_le fun hk => ?_
    have : redB k = 115792089237316195423570985008687907853269984665640564039457584007913129639936 := by
      match k, hk with
      | k + 4, _ => rfl
    rw [this] at htop
    have := hl.1
    omega
  refine ⟨hk, h.len, h.dg, by rw [hv]; exact f1, ?_⟩
  rw [hv]
  have hbd : ∀ Q : Int, Hn ≤ Q → lo + Hn * (115792089237316195423570985008687907853269984665640564039457584007913129639936 - m) ≤ lo + Q * 1361129467683753853853498429727072845823 := fun Q hQ => by
    have : Hn * (115792089237316195423570985008687907853269984665640564039457584007913129639936 - m) ≤ Q * 1361129467683753853853498429727072845823 := Int.le_trans (Int.mul_le_mul_of_nonneg_right hQ h0) (Int.mul_le_mul_of_nonneg_left (by omega) (by omega))
    omega
  have hl1 := hl.2
  have hl0 := hl.1
  clear hval hsp hv f1 f2 hs h hm
  match k, hk with
  | 0, _ =>
    have htop : _ < (13407807929942597099574024998205846127479365820592393377723561443721764030073546976801874298166903427690031858186486050853753882811946569946433649006084096 : Int) := htop
    have := hbd 115792089237316195423570985008687907853269984665640564039457584007913129639936 (by omega)
    show _ < (315216049571155833698232320801148910440637914163723573343586347233965774171977684891314130039079325126453023922454528 : Int)
    omega
  | 1, _ =>
    have htop : _ < (315216049571155833698232320801148910440637914163723573343586347233965774171977684891314130039079325126453023922454528 : Int) := htop
    have := hbd 2722258935367507707706996859454145691648 (by omega)
    show _ < (7410693711188236507108543040556026102609279018600996098525285376506440296955904 : Int)
    omega
  | 2, _ =>
    have htop : _ < (7410693711188236507108543040556026102609279018600996098525285376506440296955904 : Int) := htop
    have := hbd 64 (by omega)
    show _ < (115792089237316195423570985008687907940382270597400810686081483510445791772672 : Int)
    omega
  | 3, _ =>
    have htop : _ < (115792089237316195423570985008687907940382270597400810686081483510445791772672 : Int) := htop
    have h1' : Hn = 1 := by omega
    rw [h1'] at htop ⊢
    show _ < (115792089237316195423570985008687907853269984665640564039457584007913129639936 : Int)
    omega
/-- the memory of Add and Mul -/
def RMem5 (w wr : World) (p : Nat) (X Y M L : List Int) (Z : List Value) : Prop := Keeps w wr ∧ Row wr p 0 (X.map (Value.int .u32)) ∧ Row wr (p + 1) 0 (Y.map (Value.int .u32)) ∧ Row wr (p + 1 + 1) 0 (M.map (Value.int .u32)) ∧ Row wr (p + 1 + 1 + 1) 0 Z ∧ Row wr (p + 1 + 1 + 1 + 1) 0 (L.map (Value.int .u32))
theorem RMem5.set {w wr : World} {p : Nat} {X Y M L : List Int} {Z : List Value} (h : RMem5 w wr p X Y M L Z) (hp : w.heap.size ≤ p) {i : Nat} (hi : i < L.length) (t : Int) : RMem5 w (wr.setCell ⟨p + 1 + 1 + 1 + 1, i, none⟩ (.int .u32 t)) p X Y M (L.set i t) Z :=
  ⟨keeps_set h.1 (show w.heap.size ≤ p + 1 + 1 + 1 + 1 by omega) _, h.2.1.other (show p ≠ p + 1 + 1 + 1 + 1 by omega) _, h.2.2.1.other (show p + 1 ≠ p + 1 + 1 + 1 + 1 by omega) _, h.2.2.2.1.other (show p + 1 + 1 ≠ p + 1 + 1 + 1 + 1 by omega) _, h.2.2.2.2.1.other (show p + 1 + 1 + 1 ≠ p + 1 + 1 + 1 + 1 by omega) _, h.2.2.2.2.2.setInt0 i hi t⟩
theorem RMem5.drew {w wr : World} {p : Nat} {X Y M L : List Int} {Z : List Value} (h : RMem5 w wr p X Y M L Z) : RMem5 w wr.drew p X Y M L Z :=
  ⟨keeps_drew1 h.1, h.2.1.drew, h.2.2.1.drew, h.2.2.2.1.drew, h.2.2.2.2.1.drew, h.2.2.2.2.2.drew⟩
section
variable {P : Program} {ops : Array Oper} {rest : List Oper} {a : Act} {w : World} {Q : Exit → Act → World → Prop} {d : Option Tmp} {y : TypeId} {p : String} {af : Array Edge} {gd : Option (Nat × Bool)}
theorem gate_load (t : TypeId) (x : Operand) (h : wpList P ops Q (⟨d, .load t x, y, p, af, gd⟩ :: rest) a w) : wpList P ops Q (⟨d, .load t x, y, p, af, gd⟩ :: rest) a w := h
theorem gate_store (t : TypeId) (x z : Operand) (h : wpList P ops Q (⟨d, .store t x z, y, p, af, gd⟩ :: rest) a w) : wpList P ops Q (⟨d, .store t x z, y, p, af, gd⟩ :: rest) a w := h
end
end Go.Proofs.YtlofddoojkeakaaDoor
namespace Go.Proofs.YtlofddoojkeakaaDoor
set_option linter.unusedVariables false
set_option linter.unusedSimpArgs false
open Go Go.RowKit

theorem RedI.start {L : List Int} (hl : L.length = 17) (hd : Digs 4294967296 L) (Hn d : Int) : RedI (_root_.Go.Proofs.YtlofddoojkeakaaDoor.val 4294967296 (L.take 8)) Hn d 0 (mixL L (List.replicate 17 0) 8) where
  len := by rw [mixL_length (by omega) (by simp)]; rfl
  dg := (hd.take 8).append ((Digs.zeros (by decide) 17).drop 8)
  val := by
    unfold mixL
    rw [val_append, show (List.replicate 17 (0 : Int)).drop 8 = List.replicate 9 0 from rfl, val_zeros]
    simp [Int.emod_one]
/-- the memory of reduce; with its wide number of the round; with its last number -/
def RedMem (w wr : World) (p q : Nat) (L M D : List Int) (Z : List Value) : Prop := Keeps w wr ∧ Row wr p 0 (L.map (Value.int .u32)) ∧ Row wr (p + 1) 0 (M.map (Value.int .u32)) ∧ Row wr (p + 1 + 1) 0 Z ∧ Row wr q 0 (D.map (Value.int .u32)) ∧ p + 1 + 1 < q ∧ q < wr.heap.size
theorem RedMem.keeps {w wr w' : World} {p q : Nat} {L M D : List Int} {Z : List Value} (h : RedMem w wr p q L M D Z) (hk : Keeps wr w') : RedMem w w' p q L M D Z :=
  ⟨h.1.trans hk, h.2.1.keeps hk, h.2.2.1.keeps hk, h.2.2.2.1.keeps hk, h.2.2.2.2.1.keeps hk, h.2.2.2.2.2.1, Nat.lt_of_lt_of_le h.2.2.2.2.2.2 hk.size⟩
theorem RedMem.chg {w wr w' : World} {p q n : Nat} {L M D : List Int} {Z : List Value} (h : RedMem w wr p q L M D Z) (hc : Chg (· = n) wr w') (hp : w.heap.size ≤ p) (hn : q < n) : RedMem w w' p q L M D Z :=
  have h6 := h.2.2.2.2.2.1
  ⟨nm_keeps_chg h.1 hc (by omega), h.2.1.chg hc (by omega), h.2.2.1.chg hc (by omega), h.2.2.2.1.chg hc (by omega), h.2.2.2.2.1.chg hc (by omega), h6, Nat.lt_of_lt_of_le h.2.2.2.2.2.2 hc.size⟩
def RedMem2 (w wr : World) (p q n : Nat) (L M D N : List Int) (Z : List Value) : Prop := RedMem w wr p q L M D Z ∧ Row wr n 0 (N.map (Value.int .u32)) ∧ q < n
theorem RedMem2.drew {w wr : World} {p q n : Nat} {L M D N : List Int} {Z : List Value} (h : RedMem2 w wr p q n L M D N Z) : RedMem2 w wr.drew p q n L M D N Z :=
  ⟨h.1.keeps (keeps_drew1 (Keeps.refl _)), h.2.1.drew, h.2.2⟩
theorem set_chg (w : World) (n i : Nat) (u : Value) : Chg (· = n) w (w.setCell ⟨n, i, none⟩ u) := Chg.setCell (S := (· = n)) (Chg.refl _ _) (.inr rfl) u
theorem RedMem2.set {w wr : World} {p q n : Nat} {L M D N : List Int} {Z : List Value} (h : RedMem2 w wr p q n L M D N Z) (hp : w.heap.size ≤ p) {i : Nat} (hi : i < N.length) (t : Int) : RedMem2 w (wr.setCell ⟨n, i, none⟩ (.int .u32 t)) p q n L M D (N.set i t) Z :=
  ⟨h.1.chg (set_chg _ _ _ _) hp h.2.2, h.2.1.setInt0 i hi t, h.2.2⟩
end Go.Proofs.YtlofddoojkeakaaDoor
