/- Rotations of 64 bits: what bits.RotateLeft64, hash.right64 and the reference's rot64 hand back. The count is between 1 and 63. -/
import Derived.Test.YthfepfpmkckdnaaDoorProg
import Derived.Test.YthfepfpmkckdnaaDoorShaSpec
import Derived.Laws.Bits64
namespace Go.Proofs.YthfepfpmkckdnaaDoor.B64
set_option linter.unusedVariables false
set_option linter.unusedSimpArgs false
open Go Go.RowKit

/-- a word of 64 bits -/
def W64 (x : Int) : Prop := 0 ≤ x ∧ x < 18446744073709551616
/-- rotated to the right, as the walk spells it -/
def ror (x : Int) (n : Nat) : Int := bits .or .u64 (x * 2 ^ (64 - n) % 18446744073709551616) (x / 2 ^ n)
theorem bits_u64_range (op : BinOp) (a b : Int) : W64 (bits op .u64 a b) := by
  unfold bits
  split <;> simp only [IntKind.wrap_u64] <;> exact ⟨by omega, by omega⟩
theorem bits_or_comm64 (a b : Int) : bits .or .u64 a b = bits .or .u64 b a := by
  simp [bits, BitVec.or_comm]
theorem ror_range (x : Int) (n : Nat) : W64 (ror x n) := bits_u64_range _ _ _

theorem neg_and (n : Nat) (h1 : 1 ≤ n) (h2 : n ≤ 63) : bits .and .u64 (IntKind.u64.wrap (-(n : Int))) 63 = ((64 - n : Nat) : Int) := by
  have h := (by decide +kernel : ∀ m : Fin 64, 1 ≤ m.val → bits .and .u64 (IntKind.u64.wrap (-(m.val : Int))) 63 = ((64 - m.val : Nat) : Int)) ⟨n, by omega⟩ h1
  exact h

theorem rotl_any (x : Int) (n : Nat) (h1 : 1 ≤ n) (h2 : n ≤ 63) (hx : W64 x) (w : World) : Calls Tryd.prog 85 #[.int .u64 x, .int .i64 (-(n : Int))] w fun e w' => e = .returned (.int .u64 (ror x n)) ∧ w = w' := by
  obtain ⟨h3, h4⟩ := hx
  have hb := neg_and n h1 h2
  generalize hm : bits .and .u64 (IntKind.u64.wrap (-(n : Int))) 63 = m at *
  subst hb
  have e1 : 64 - (64 - n) = n := by omega
  have HM := Lib.hid e1; clear e1
  have hm1 : 1 ≤ 64 - n := by omega
  have hm2 : 64 - n ≤ 63 := by omega
  have hr : ror x n = bits .or .u64 (x * 2 ^ (64 - n) % 18446744073709551616) (x / 2 ^ (64 - (64 - n))) := by rw [HM.out]; rfl
  have HR := Lib.hid hr; clear hr
  generalize 64 - n = k at *
  go_enter Tryd.func85, Tryd.ntmps85
  go_wp2
  go_ret
  exact ⟨ret_int HR.out.symm, rfl⟩

theorem right_any (x n : Int) (h1 : 1 ≤ n) (h2 : n ≤ 63) (hx : W64 x) (w : World) : Calls Tryd.prog 64 #[.int .u64 x, .int .i64 n] w fun e w' => e = .returned (.int .u64 (ror x n.toNat)) ∧ w = w' := by
  obtain ⟨n, rfl⟩ := Int.eq_ofNat_of_zero_le (show 0 ≤ n by omega)
  go_enter Tryd.func64, Tryd.ntmps64
  go_wp2_with (go_at_call 85; refine (rotl_any _ _ (by omega) (by omega) hx _).mono ?_; rintro e w' ⟨rfl, rfl⟩)
  go_ret
  exact ⟨rfl, rfl⟩

/-- the reference's -/
theorem rot_any (x m : Int) (h1 : 1 ≤ m) (h2 : m ≤ 63) (hx : W64 x) (w : World) : Calls Tryd.prog 49 #[.int .u64 x, .int .i64 m] w fun e w' => e = .returned (.int .u64 (ror x m.toNat)) ∧ w = w' := by
  have hR := ror_range x m.toNat
  obtain ⟨h3, h4⟩ := hx
  obtain ⟨m, rfl⟩ := Int.eq_ofNat_of_zero_le (show 0 ≤ m by omega)
  have hr : ror x m = bits .or .u64 (x / 2 ^ m) (x * 2 ^ (64 - m) % 18446744073709551616) := by
    unfold ror
    exact bits_or_comm64 _ _
  have HR := Lib.hid hr; clear hr hR
  go_enter Tryd.func49, Tryd.ntmps49
  go_wp2
  go_ret
  exact ⟨ret_int HR.out.symm, rfl⟩
end Go.Proofs.YthfepfpmkckdnaaDoor.B64
