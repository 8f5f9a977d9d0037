/- Rotations of 32 bits: what bits.RotateLeft32, hash.right and the reference's rot hand back. The count is between 1 and 31. -/
import Derived.Test.YthfepfpmkckdnaaDoorProg
import Derived.Test.YthfepfpmkckdnaaDoorKit
namespace Go.Proofs.YthfepfpmkckdnaaDoor
set_option linter.unusedVariables false
set_option linter.unusedSimpArgs false
open Go Go.RowKit

/-- a word of 32 bits -/
def W32 (x : Int) : Prop := 0 ≤ x ∧ x < 4294967296
/-- rotated to the right, as the walk spells it -/
def ror (x : Int) (n : Nat) : Int := bits .or .u32 (x * 2 ^ (32 - n) % 4294967296) (x / 2 ^ n)
theorem bits_u32_range (op : BinOp) (a b : Int) : W32 (bits op .u32 a b) := by
  unfold bits
  split <;> simp only [IntKind.wrap_u32'] <;> exact ⟨by omega, by omega⟩
theorem ror_range (x : Int) (n : Nat) : W32 (ror x n) := bits_u32_range _ _ _

theorem neg_and (n : Nat) (h1 : 1 ≤ n) (h2 : n ≤ 31) : bits .and .u64 (IntKind.u64.wrap (-(n : Int))) 31 = ((32 - n : Nat) : Int) := by
  have h := (by decide +kernel : ∀ m : Fin 32, 1 ≤ m.val → bits .and .u64 (IntKind.u64.wrap (-(m.val : Int))) 31 = ((32 - m.val : Nat) : Int)) ⟨n, by omega⟩ h1
  exact h

end Go.Proofs.YthfepfpmkckdnaaDoor
