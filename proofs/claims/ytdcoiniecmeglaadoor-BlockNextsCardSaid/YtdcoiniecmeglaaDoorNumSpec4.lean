/- Doubling and taking away, byte by byte: plain Lean. -/
import Derived.Test.YtdcoiniecmeglaaDoorNumSpec3
namespace Go.Proofs.YtdcoiniecmeglaaDoor
set_option linter.unusedVariables false
set_option linter.unusedSimpArgs false
open Go Go.RowKit

theorem b_pos (k : Nat) : (0 : Int) < 256 ^ k := Int.pow_pos (by decide)
theorem b_succ (A : Int) (k : Nat) : A / 256 ^ k / 256 = A / 256 ^ (k + 1) := by
  rw [Int.pow_succ, Int.ediv_ediv_of_nonneg (Int.le_of_lt (b_pos k))]
/-- byte k from behind -/
def byteK (A : Int) (k : Nat) : Int := A / 256 ^ k % 256
theorem byteK_range (A : Int) (k : Nat) : 0 ≤ byteK A k ∧ byteK A k < 256 := by unfold byteK; omega
theorem byteK_be {l : List Int} (h : Bytes l) (hl : l.length = 32) (i : Nat) (hi : i < 32) : l.getD i 0 = byteK (be l) (31 - i) := by
  have e := toB_be' h hl
  conv => lhs; rw [← e]
  rw [toB_getD _ _ _ hi]; rfl
theorem byteK_toB (V : Int) (i : Nat) (hi : i < 32) : (toB 32 V).getD i 0 = byteK V (31 - i) := by rw [toB_getD _ _ _ hi]; rfl
/-- the carry of a doubling -/
def dcar (A t : Int) (k : Nat) : Int := (2 * A + t) / 256 ^ k - 2 * (A / 256 ^ k)
theorem dcar_zero (A t : Int) : dcar A t 0 = t := by simp [dcar]; omega
theorem dcar_step (A t : Int) (k : Nat) (h : 0 ≤ dcar A t k ∧ dcar A t k ≤ 1) : byteK (2 * A + t) k = (byteK A k * 2 + dcar A t k) % 256 ∧ dcar A t (k + 1) = byteK A k / 128 := by
  unfold byteK dcar at *
  rw [← b_succ, ← b_succ]
  generalize (2 * A + t) / 256 ^ k = P at *
  generalize A / 256 ^ k = Q at *
  omega
theorem dcar_range (A t : Int) (ht : 0 ≤ t ∧ t ≤ 1) (k : Nat) : 0 ≤ dcar A t k ∧ dcar A t k ≤ 1 := by
  induction k with
  | zero => rw [dcar_zero]; exact ht
  | succ k ih =>
    rw [(dcar_step A t k ih).2]
    have := byteK_range A k
    omega
theorem dcar_top {A : Int} (t : Int) (h0 : 0 ≤ A) (h1 : A < N256) : dcar A t 32 = (2 * A + t) / N256 := by
  unfold dcar
  rw [show A / 256 ^ 32 = 0 from Int.ediv_eq_zero_of_lt h0 h1]
  show (2 * A + t) / N256 - 2 * 0 = _
  omega
/-- the borrow of a difference -/
def mbor (A B : Int) (k : Nat) : Int := A / 256 ^ k - B / 256 ^ k - (A - B) / 256 ^ k
theorem mbor_zero (A B : Int) : mbor A B 0 = 0 := by simp [mbor]
theorem mbor_step (A B : Int) (k : Nat) : byteK (A - B) k = (byteK A k - byteK B k - mbor A B k) % 256 ∧ mbor A B (k + 1) = -((byteK A k - byteK B k - mbor A B k) / 256) := by
  unfold byteK mbor
  rw [← b_succ, ← b_succ, ← b_succ]
  generalize (A - B) / 256 ^ k = P at *
  generalize A / 256 ^ k = Q at *
  generalize B / 256 ^ k = R at *
  omega
theorem mbor_range (A B : Int) (k : Nat) : 0 ≤ mbor A B k ∧ mbor A B k ≤ 1 := by
  induction k with
  | zero => rw [mbor_zero]; omega
  | succ k ih =>
    rw [(mbor_step A B k).2]
    have h1 := byteK_range A k
    have h2 := byteK_range B k
    omega
/-- the first i are still the old ones -/
def mixB (a b : List Int) (i : Nat) : List Int := a.take i ++ b.drop i
theorem mixB_full {a : List Int} (b : List Int) {n : Nat} (h : a.length = n) (h2 : b.length = n) : mixB a b n = a := by
  unfold mixB; rw [List.take_of_length_le (by omega), List.drop_eq_nil_of_le (by omega), List.append_nil]
theorem mixB_zero (a b : List Int) : mixB a b 0 = b := by simp [mixB]
theorem mixB_length {a b : List Int} {n i : Nat} (h : a.length = n) (h2 : b.length = n) (hi : i ≤ n) : (mixB a b i).length = n := by simp [mixB, h, h2]; omega
theorem mixB_getD {a b : List Int} {n i j : Nat} (h : a.length = n) (hi : i ≤ n) (hj : j < i) : (mixB a b i).getD j 0 = a.getD j 0 := by
  unfold mixB
  rw [List.getD, List.getElem?_append_left (by simp; omega), List.getElem?_take, if_pos hj]; rfl
theorem mixB_set {a b : List Int} {n i : Nat} (h : a.length = n) (h2 : b.length = n) (hi : i < n) : (mixB a b (i + 1)).set i (b.getD i 0) = mixB a b i := by
  unfold mixB
  have e1 : a.take (i + 1) = a.take i ++ [a.getD i 0] := by
    rw [List.take_succ_eq_append_getElem (by omega)]
    simp [List.getD, show i < a.length by omega]
  have e2 : b.drop i = b.getD i 0 :: b.drop (i + 1) := by
    rw [List.drop_eq_getElem_cons (by omega)]
    simp [List.getD, show i < b.length by omega]
  rw [e1, e2, List.append_assoc, List.set_append_right _ _ (by simp; omega)]
  simp [show min i a.length = i by omega]
theorem toB_mod (k : Nat) (v : Int) : toB k (v % 256 ^ k) = toB k v := by
  refine List.ext_getElem? (fun i => ?_)
  by_cases hi : i < k
  · have hg : ∀ u, (toB k u)[i]? = some ((toB k u).getD i 0) := fun u => by simp [List.getD, toB_length, hi]
    rw [hg, hg, toB_getD _ _ _ hi, toB_getD _ _ _ hi]
    congr 1
    have e : (256 : Int) ^ k = 256 ^ (k - 1 - i) * (256 * 256 ^ i) := by
      rw [← Int.pow_succ', ← Int.pow_add]; congr 1; omega
    have hp := b_pos (k - 1 - i)
    have h1 := Int.emod_add_mul_ediv v (256 ^ k)
    have e2 : v / 256 ^ (k - 1 - i) = v % 256 ^ k / 256 ^ (k - 1 - i) + 256 * (256 ^ i * (v / 256 ^ k)) := by
      conv => lhs; rw [← h1]
      have e3 : 256 ^ k * (v / 256 ^ k) = 256 ^ (k - 1 - i) * (256 * (256 ^ i * (v / 256 ^ k))) := by
        generalize v / 256 ^ k = q
        rw [e, Int.mul_assoc, Int.mul_assoc]
      rw [e3, Int.add_mul_ediv_left _ _ (Int.ne_of_gt hp)]
    rw [e2]
    omega
  · rw [List.getElem?_eq_none (by rw [toB_length]; omega), List.getElem?_eq_none (by rw [toB_length]; omega)]
theorem toB_cong {u v : Int} (h : u % N256 = v % N256) : toB 32 u = toB 32 v := by
  rw [← toB_mod 32 u, ← toB_mod 32 v]
  exact congrArg (toB 32) h
theorem be_toB' (v : Int) : be (toB 32 v) = v % N256 := be_toB 32 v
theorem toB_inc (v : Int) (h : v % 2 = 0) : (toB 32 v).set 31 ((toB 32 v).getD 31 0 + 1) = toB 32 (v + 1) ∧ (toB 32 v).getD 31 0 ≤ 254 := by
  have e : ∀ u, toB 32 u = toB 31 (u / 256) ++ [u % 256] := fun u => rfl
  have hg : (toB 32 v).getD 31 0 = v % 256 := by rw [toB_getD _ _ _ (by decide)]; simp
  rw [hg]
  refine ⟨?_, by omega⟩
  rw [e v, e (v + 1), List.set_append_right _ _ (by rw [toB_length]; decide), toB_length, show (v + 1) / 256 = v / 256 by omega, show (v + 1) % 256 = v % 256 + 1 by omega]
  rfl
/-- the long division that the reference does -/
theorem n256_bit (i : Nat) (h : i ≤ 256) : bit N256 i = if i = 256 then 1 else 0 := by
  unfold bit
  split
  · subst i; decide
  · have hi : i < 256 := by omega
    have e : N256 = 2 ^ i * (2 * 2 ^ (255 - i)) := by
      have : (2 : Int) ^ 256 = 2 ^ i * (2 * 2 ^ (255 - i)) := by rw [← Int.pow_succ', ← Int.pow_add]; congr 1; omega
      rw [← this]; decide
    rw [e, Int.mul_ediv_cancel_left _ (Int.ne_of_gt (two_pos i)), Int.mul_emod_right]
theorem rtop {b : Int} : drest N256 b 257 = 0 ∧ dquo N256 b 257 = 0 := drest_top (by decide) (by rw [show 257 = 256 + 1 from rfl, Int.pow_succ]; decide)
theorem rless {b : Int} (hb : 0 < b) (hb2 : b < N256) (i : Nat) : (N256 ≤ dnext N256 b i ∨ ¬ dnext N256 b i % N256 < b) ↔ b ≤ dnext N256 b i := by
  obtain ⟨r0, r1⟩ := drest_range (a := N256) hb (i + 1)
  have hbt := bit_range N256 i
  unfold dnext at *
  generalize drest N256 b (i + 1) = R at *
  generalize bit N256 i = t at *
  unfold N256 at *
  omega
end Go.Proofs.YtdcoiniecmeglaaDoor
