/- Numbers of 256 bits: block's words as bytes again. -/
import Derived.Test.YthfepfpmkckdnaaDoorNumW
namespace Go.Proofs.YthfepfpmkckdnaaDoor
set_option linter.unusedVariables false
set_option linter.unusedSimpArgs false
open Go Go.RowKit

theorem words_getD (v : Int) (k : Nat) (hk : k < 4) : (words v).getD k 0 = v / 256 ^ (8 * k) % 18446744073709551616 := by
  have : k = 0 ∨ k = 1 ∨ k = 2 ∨ k = 3 := by omega
  rcases this with rfl | rfl | rfl | rfl
  · simp [words]
  · rfl
  · rfl
  · rfl
theorem words_byte (v : Int) (i : Nat) (hi : i < 32) : (words v).getD (3 - i / 8) 0 / 2 ^ (56 - 8 * (i % 8)) % 256 = (toB 32 v).getD i 0 := by
  rw [words_getD _ _ (by omega), toB_getD _ _ _ hi]
  have e : 32 - 1 - i = 8 * (3 - i / 8) + (7 - i % 8) := by omega
  rw [e, Int.pow_add, ← Int.ediv_ediv_of_nonneg (Int.pow_nonneg (by decide))]
  generalize v / 256 ^ (8 * (3 - i / 8)) = u
  have hr : i % 8 = 0 ∨ i % 8 = 1 ∨ i % 8 = 2 ∨ i % 8 = 3 ∨ i % 8 = 4 ∨ i % 8 = 5 ∨ i % 8 = 6 ∨ i % 8 = 7 := by omega
  rcases hr with hr | hr | hr | hr | hr | hr | hr | hr <;> rw [hr] <;> simp only [Nat.mul_zero, Nat.sub_zero, Nat.sub_self, Int.pow_zero, Int.ediv_one, Nat.reduceMul, Nat.reduceSub, Int.reducePow] <;> omega
theorem words_range (v : Int) (k : Nat) (hk : k < 4) : 0 ≤ (words v).getD k 0 ∧ (words v).getD k 0 < 18446744073709551616 := by
  rw [words_getD _ _ hk]; omega
/-- the byte that a word gives to place i -/
def wbyte (x : Int) (i : Nat) : Int := x / 2 ^ (56 - 8 * (i % 8)) % 256
theorem words_wbyte (v : Int) (i : Nat) (hi : i < 32) : wbyte ((words v).getD (3 - i / 8) 0) i = (toB 32 v).getD i 0 := words_byte v i hi
end Go.Proofs.YthfepfpmkckdnaaDoor
