/- Numbers of 256 bits: block's words, their sum, and back. -/
import Derived.Test.YthfepfpmkckdnaaDoorNum
import Derived.Laws.Externs
namespace Go.Proofs.YthfepfpmkckdnaaDoor
set_option linter.unusedVariables false
set_option linter.unusedSimpArgs false
open Go Go.RowKit

/-- word j, when the first i bytes have come -/
def wcell (l : List Int) (i j : Nat) : Int := be (((l.take i).drop (24 - 8 * j)).take 8)
def wst (l : List Int) (i : Nat) : List Int := [wcell l i 0, wcell l i 1, wcell l i 2, wcell l i 3]
theorem wst_zero (l : List Int) : wst l 0 = [0, 0, 0, 0] := by simp [wst, wcell, be]
theorem wcell_range {l : List Int} (hb : Bytes l) (i j : Nat) : 0 ≤ wcell l i j ∧ wcell l i j < 18446744073709551616 := by
  have h := be_range (l := ((l.take i).drop (24 - 8 * j)).take 8) (fun x h => hb x (List.mem_of_mem_take (List.mem_of_mem_drop (List.mem_of_mem_take h))))
  have hlen : (((l.take i).drop (24 - 8 * j)).take 8).length ≤ 8 := by simp; omega
  refine ⟨h.1, Int.lt_of_lt_of_le h.2 ?_⟩
  have hp : ∀ k : Fin 9, (256 : Int) ^ k.val ≤ 18446744073709551616 := by decide
  exact hp ⟨_, by omega⟩
theorem wcell_step {l : List Int} (hb : Bytes l) (hl : l.length = 32) {i : Nat} (h : i < 32) : wcell l (i + 1) (3 - i / 8) = wcell l i (3 - i / 8) * 256 + l.getD i 0 ∧ wcell l i (3 - i / 8) * 256 < 18446744073709551616 ∧ ∀ j, j < 4 → j ≠ 3 - i / 8 → wcell l (i + 1) j = wcell l i j := by
  have h8 : 24 - 8 * (3 - i / 8) = 8 * (i / 8) := by omega
  have hlen : ((l.take i).drop (8 * (i / 8))).length ≤ 7 := by rw [List.length_drop, List.length_take]; omega
  refine ⟨?_, ?_, fun j hj hne => ?_⟩
  · unfold wcell
    have e : (l.take (i + 1)).drop (8 * (i / 8)) = (l.take i).drop (8 * (i / 8)) ++ [l.getD i 0] := by
      rw [List.take_succ_eq_append_getElem (by omega), List.drop_append_of_le_length (by rw [List.length_take]; omega)]
      simp [List.getD, show i < l.length by omega]
    rw [h8, e]
    generalize (l.take i).drop (8 * (i / 8)) = A at *
    have t1 : (A ++ [l.getD i 0]).take 8 = A ++ [l.getD i 0] := List.take_of_length_le (by rw [List.length_append, List.length_singleton]; omega)
    have t2 : A.take 8 = A := List.take_of_length_le (by omega)
    rw [t1, t2, be_snoc]
  · have hr := be_range (l := ((l.take i).drop (8 * (i / 8))).take 8) (fun x h => hb x (List.mem_of_mem_take (List.mem_of_mem_drop (List.mem_of_mem_take h))))
    have hlen2 : (((l.take i).drop (8 * (i / 8))).take 8).length ≤ 7 := by rw [List.length_take]; omega
    have hp : ∀ k : Fin 8, (256 : Int) ^ k.val ≤ 72057594037927936 := by decide
    unfold wcell
    rw [h8]
    generalize ((l.take i).drop (8 * (i / 8))).take 8 = A at *
    have h3 := Int.lt_of_lt_of_le hr.2 (hp ⟨A.length, by omega⟩)
    omega
  · unfold wcell
    by_cases hc : j < 3 - i / 8
    · rw [List.drop_eq_nil_of_le (by simp; omega), List.drop_eq_nil_of_le (by simp; omega)]
    · have e : ∀ m, 24 - 8 * j + 8 ≤ m → ((l.take m).drop (24 - 8 * j)).take 8 = (l.drop (24 - 8 * j)).take 8 := by
        intro m hm
        rw [List.drop_take, List.take_take, Nat.min_eq_left (by omega)]
      rw [e i (by omega), e (i + 1) (by omega)]
theorem wst_set {l : List Int} (hb : Bytes l) (hl : l.length = 32) {i : Nat} (h : i < 32) : (wst l i).set (3 - i / 8) (wcell l i (3 - i / 8) * 256 + l.getD i 0) = wst l (i + 1) := by
  obtain ⟨h1, _, h3⟩ := wcell_step hb hl h
  have hk : 3 - i / 8 = 0 ∨ 3 - i / 8 = 1 ∨ 3 - i / 8 = 2 ∨ 3 - i / 8 = 3 := by omega
  rw [← h1]
  unfold wst
  rcases hk with hk | hk | hk | hk <;> rw [hk] at h3 ⊢ <;> simp only [List.set_cons_zero, List.set_cons_succ]
  · rw [h3 1 (by omega) (by omega), h3 2 (by omega) (by omega), h3 3 (by omega) (by omega)]
  · rw [h3 0 (by omega) (by omega), h3 2 (by omega) (by omega), h3 3 (by omega) (by omega)]
  · rw [h3 0 (by omega) (by omega), h3 1 (by omega) (by omega), h3 3 (by omega) (by omega)]
  · rw [h3 0 (by omega) (by omega), h3 1 (by omega) (by omega), h3 2 (by omega) (by omega)]
theorem wst_getD (l : List Int) (i k : Nat) (hk : k < 4) : (wst l i).getD k 0 = wcell l i k := by
  have : k = 0 ∨ k = 1 ∨ k = 2 ∨ k = 3 := by omega
  rcases this with rfl | rfl | rfl | rfl <;> rfl
theorem wst_full {l : List Int} (hb : Bytes l) (hl : l.length = 32) : wst l 32 = words (be l) := by
  have key : ∀ j, j ≤ 3 → wcell l 32 j = be l / 18446744073709551616 ^ j % 18446744073709551616 := by
    intro j hj
    have e : l = l.take (24 - 8 * j) ++ ((l.drop (24 - 8 * j)).take 8 ++ l.drop (32 - 8 * j)) := by
      have h1 := List.take_append_drop (24 - 8 * j) l
      have h2 := List.take_append_drop 8 (l.drop (24 - 8 * j))
      rw [List.drop_drop, show 24 - 8 * j + 8 = 32 - 8 * j by omega] at h2
      rw [h2, h1]
    have hmid : (l.drop (24 - 8 * j)).take 8 = ((l.take 32).drop (24 - 8 * j)).take 8 := by rw [List.take_of_length_le (by omega : l.length ≤ 32)]
    have hml : ((l.drop (24 - 8 * j)).take 8).length = 8 := by simp; omega
    have htl : (l.drop (32 - 8 * j)).length = 8 * j := by simp; omega
    have ht := be_range (l := l.drop (32 - 8 * j)) (fun x h => hb x (List.mem_of_mem_drop h))
    have hm := be_range (l := (l.drop (24 - 8 * j)).take 8) (fun x h => hb x (List.mem_of_mem_drop (List.mem_of_mem_take h)))
    rw [htl] at ht
    rw [hml] at hm
    have hM : (18446744073709551616 : Int) ^ j = 256 ^ (8 * j) := by rw [Int.pow_mul]; rfl
    rw [wcell, ← hmid, hM]
    conv => rhs; rw [e]
    rw [be_append, be_append, List.length_append, hml, htl]
    generalize be ((l.drop (24 - 8 * j)).take 8) = B at *
    generalize be (l.drop (32 - 8 * j)) = C at *
    generalize be (l.take (24 - 8 * j)) = A at *
    have hp : (0 : Int) < 256 ^ (8 * j) := Int.pow_pos (by decide)
    rw [Int.pow_add, ← Int.mul_assoc, ← Int.add_assoc, ← Int.add_mul, Int.add_comm _ C, Int.add_mul_ediv_right _ _ (Int.ne_of_gt hp), Int.ediv_eq_zero_of_lt ht.1 ht.2, Int.zero_add]
    omega
  unfold wst words
  rw [key 0 (by omega), key 1 (by omega), key 2 (by omega), key 3 (by omega)]
  simp only [Int.pow_zero, Int.ediv_one]
  rfl
theorem nm_w64_wraps (n : Int) (h₀ : 0 ≤ n) (h₁ : n < 2 ^ 64) : IntKind.u64.wrap n = n := by rw [IntKind.wrap_u64]; omega
theorem nm_u64_join (i : Nat) (x y : Int) (hx₀ : 0 ≤ x) (hx : x % 2 ^ i = 0) (hx₁ : x < 2 ^ 64) (hy₀ : 0 ≤ y) (hy : y < 2 ^ i) (hy₁ : y < 2 ^ 64) : bits .or .u64 x y = x + y :=
  bits_join .u64 64 (by decide) nm_w64_wraps i x y hx₀ hx hx₁ hy₀ hy hy₁
theorem nm_sz_u8 : (Tryd.prog.info? 5).map (·.size) = some 1 := by kernel_rfl
end Go.Proofs.YthfepfpmkckdnaaDoor
