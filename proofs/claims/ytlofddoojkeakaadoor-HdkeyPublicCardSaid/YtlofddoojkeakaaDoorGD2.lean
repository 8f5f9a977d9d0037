/- The reference's fill: a message, a one bit, noughts, and its length in some bytes. At blocks of 64 bytes with 8 bytes of length, and at 128 with 16. -/
import Derived.Test.YtlofddoojkeakaaDoorGA3
namespace Go.Proofs.YtlofddoojkeakaaDoor
set_option linter.unusedVariables false
set_option linter.unusedSimpArgs false
open Go Go.RowKit

/-- the k lowest bytes of a number, the lowest first -/
def lowB (v : Int) : Nat → List Int
  | 0 => []
  | k + 1 => lowB v k ++ [v / 256 ^ k % 256]
theorem lowB_length (v : Int) (k : Nat) : (lowB v k).length = k := by
  induction k with
  | zero => rfl
  | succ k ih => simp [lowB, ih]
/-- so many noughts -/
def fillN (size len n : Nat) : Nat := size - 1 - (n + len) % size
/-- what is filled in behind n bytes -/
def fillL (size len n : Nat) (low : Bool) : List Int := 128 :: (List.replicate (fillN size len n) 0 ++ (if low then lowB (n * 8) len else (lowB (n * 8) len).reverse))
theorem fillL_length (size len n : Nat) (low : Bool) : (fillL size len n low).length = 1 + fillN size len n + len := by
  cases low <;> simp [fillL, lowB_length] <;> omega
end Go.Proofs.YtlofddoojkeakaaDoor
