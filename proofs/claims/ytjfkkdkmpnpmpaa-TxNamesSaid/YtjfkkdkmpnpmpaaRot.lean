/- Rotations of 32 bits: what bits.RotateLeft32, hash.right and the reference's rot hand back. The count is between 1 and 31. -/
import Derived.Test.YtjfkkdkmpnpmpaaProg
import Derived.Test.YtjfkkdkmpnpmpaaKit
namespace Go.Proofs.Ytjfkkdkmpnpmpaa
set_option linter.unusedVariables false
set_option linter.unusedSimpArgs false
open Go Go.RowKit

/-- a word of 32 bits -/
def W32 (x : Int) : Prop := 0 ≤ x ∧ x < 4294967296
/-- rotated to the right, as the walk spells it -/
def ror (x : Int) (n : Nat) : Int := bits .or .u32 (x * 2 ^ (32 - n) % 4294967296) (x / 2 ^ n)
theorem bits_u32_range (op : BinOp) (a b : Int) : W32 (bits op .u32 a b) := by
  unfold bits
  split <;> simp only [IntKind.wrap_u32'] <;> exact ⟨by omega, by omega⟩
theorem ror_range (x : Int) (n : Nat) : W32 (ror x n) := bits_u32_range _ _ _

theorem neg_and (n : Nat) (h1 : 1 ≤ n) (h2 : n ≤ 31) : bits .and .u64 (IntKind.u64.wrap (-(n : Int))) 31 = ((32 - n : Nat) : Int) := by
  have h := (by decide +kernel : ∀ m : Fin 32, 1 ≤ m.val → bits .and .u64 (IntKind.u64.wrap (-(m.val : Int))) 31 = ((32 - m.val : Nat) : Int)) ⟨n, by omega⟩ h1
  exact h

theorem rotl_any (x : Int) (n : Nat) (h1 : 1 ≤ n) (h2 : n ≤ 31) (hx : W32 x) (w : World) : Calls Try.prog 125 #[.int .u32 x, .int .i64 (-(n : Int))] w fun e w' => e = .returned (.int .u32 (ror x n)) ∧ w = w' := by
  obtain ⟨h3, h4⟩ := hx
  have hb := neg_and n h1 h2
  generalize hm : bits .and .u64 (IntKind.u64.wrap (-(n : Int))) 31 = m at *
  subst hb
  have e1 : 32 - (32 - n) = n := by omega
  have HM := Lib.hid e1; clear e1
  have hm1 : 1 ≤ 32 - n := by omega
  have hm2 : 32 - n ≤ 31 := by omega
  have hr : ror x n = bits .or .u32 (x * 2 ^ (32 - n) % 4294967296) (x / 2 ^ (32 - (32 - n))) := by rw [HM.out]; rfl
  have HR := Lib.hid hr; clear hr
  generalize 32 - n = k at *
  go_enter Try.func125, Try.ntmps125
  go_wp2
  go_ret
  exact ⟨ret_int HR.out.symm, rfl⟩

theorem right_any (x n : Int) (h1 : 1 ≤ n) (h2 : n ≤ 31) (hx : W32 x) (w : World) : Calls Try.prog 112 #[.int .u32 x, .int .i64 n] w fun e w' => e = .returned (.int .u32 (ror x n.toNat)) ∧ w = w' := by
  obtain ⟨n, rfl⟩ := Int.eq_ofNat_of_zero_le (show 0 ≤ n by omega)
  go_enter Try.func112, Try.ntmps112
  go_wp2_with (go_at_call 125; refine (rotl_any _ _ (by omega) (by omega) hx _).mono ?_; rintro e w' ⟨rfl, rfl⟩)
  go_ret
  exact ⟨rfl, rfl⟩

/-- the reference's, to the left by m: to the right by 32 - m -/
theorem rot_any (x m : Int) (h1 : 1 ≤ m) (h2 : m ≤ 31) (hx : W32 x) (w : World) : Calls Try.prog 79 #[.int .u32 x, .int .i64 m] w fun e w' => e = .returned (.int .u32 (ror x (32 - m.toNat))) ∧ w = w' := by
  obtain ⟨h3, h4⟩ := hx
  obtain ⟨m, rfl⟩ := Int.eq_ofNat_of_zero_le (show 0 ≤ m by omega)
  have hr : ror x (32 - m) = bits .or .u32 (x * 2 ^ m % 4294967296) (x / 2 ^ (32 - m)) := by
    unfold ror
    rw [show 32 - (32 - m) = m by omega]
  have HR := Lib.hid hr; clear hr
  go_enter Try.func79, Try.ntmps79
  go_wp2
  go_ret
  exact ⟨ret_int HR.out.symm, rfl⟩
end Go.Proofs.Ytjfkkdkmpnpmpaa
