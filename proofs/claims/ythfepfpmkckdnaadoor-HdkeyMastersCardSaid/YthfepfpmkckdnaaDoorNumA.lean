/- block's words: added, taken away. -/
import Derived.Test.YthfepfpmkckdnaaDoorNumSpec2
import Derived.Test.YthfepfpmkckdnaaDoorNum
import Derived.Test.YthfepfpmkckdnaaDoorNumN
import Derived.Test.YthfepfpmkckdnaaDoorNumW
import Derived.Test.YthfepfpmkckdnaaDoorQTail
import Derived.Laws.Externs
import Derived.BigRegion
namespace Go.Proofs.YthfepfpmkckdnaaDoor
set_option linter.unusedVariables false
set_option linter.unusedSimpArgs false
open Go Go.RowKit

/-- the model's row for Sub64 -/
def sub64Entry : Array Value → Sem Value := fun args => do
  let (x, y, b) ← Extern.MathBitsCarry.three "Sub64" args
  pure (Extern.MathBitsCarry.pair ((x + Extern.MathBitsCarry.m64 - y - b) % Extern.MathBitsCarry.m64) (if x < y + b then 1 else 0))
theorem results_cell_tmpB {P : Program} {fn : Func} {p t : Tmp} {ty : TypeId} (h : fn.results = #[.cell p ty, .tmp t]) (tmps : Array Value) (w : World) (g off : Nat) (cs : List Value) (d : TypeDesc) (u : Value) (hu' : tmps.getD t undef = u)
    (hp : tmps.getD p undef = .pointer (some ⟨g, off, none⟩)) (hg : Row w g off cs)
    (hu : P.underlying ty = some d) (hd : (match d with | .struct _ | .array _ _ => true | _ => false) = true) (hi : (P.info? ty).map (·.size) = some cs.length) :
    (results fn tmps).run P w = .ok (.tuple #[.agg cs.toArray, u]) w := by
  have hp' : tmps[p]?.getD undef = .pointer (some ⟨g, off, none⟩) := by simpa using hp
  have ht' : tmps[t]?.getD undef = u := by simpa using hu'
  simp [results, h, hp', ht', asAddr, run_loadVar_at w g off ty cs d hg hu hd hi]
theorem add64_run (x y c : Int) (hx : 0 ≤ x) (hy : 0 ≤ y) (hc : 0 ≤ c) (hc1 : c ≤ 1) (W : World) :
    (callFunc 105 #[.int .u64 x, .int .u64 y, .int .u64 c]).run Tryd.prog W = .ok (.value (.tuple #[.int .u64 ((x + y + c) % 18446744073709551616), .int .u64 ((x + y + c) / 18446744073709551616)])) W := by
  rw [run_callFunc_extern Tryd.func105 (by kernel_rfl) (by kernel_rfl) (by kernel_rfl) (e := add64Entry) (by kernel_rfl), run_add64 x y c hx hy hc hc1]
  rfl
theorem sub64_run (x y c : Int) (hx : 0 ≤ x) (hx1 : x < 18446744073709551616) (hy : 0 ≤ y) (hy1 : y < 18446744073709551616) (hc : 0 ≤ c) (hc1 : c ≤ 1) (W : World) :
    (callFunc 102 #[.int .u64 x, .int .u64 y, .int .u64 c]).run Tryd.prog W = .ok (.value (.tuple #[.int .u64 ((x - y - c) % 18446744073709551616), .int .u64 (-((x - y - c) / 18446744073709551616))])) W := by
  obtain ⟨X, rfl⟩ := Int.eq_ofNat_of_zero_le hx
  obtain ⟨Y, rfl⟩ := Int.eq_ofNat_of_zero_le hy
  obtain ⟨k, rfl⟩ := Int.eq_ofNat_of_zero_le hc
  have key : (sub64Entry #[.int .u64 (X : Int), .int .u64 (Y : Int), .int .u64 (k : Int)]).run Tryd.prog W =
      .ok (Extern.MathBitsCarry.pair ((X + Extern.MathBitsCarry.m64 - Y - k) % Extern.MathBitsCarry.m64) (if X < Y + k then 1 else 0)) W := by
    have : k = 0 ∨ k = 1 := by omega
    rcases this with rfl | rfl <;> rfl
  rw [run_callFunc_extern Tryd.func102 (by kernel_rfl) (by kernel_rfl) (by kernel_rfl) (e := sub64Entry) (by kernel_rfl), key]
  simp only [Extern.MathBitsCarry.pair, Extern.MathBitsCarry.m64, Result.andThen_ok]
  have e1 : Int.ofNat ((X + 2 ^ 64 - Y - k) % 2 ^ 64) = ((X : Int) - Y - k) % 18446744073709551616 := by
    show (((X + 2 ^ 64 - Y - k) % 2 ^ 64 : Nat) : Int) = _
    omega
  have e2 : Int.ofNat (if X < Y + k then 1 else 0) = -(((X : Int) - Y - k) / 18446744073709551616) := by
    show ((if X < Y + k then 1 else 0 : Nat) : Int) = _
    split <;> omega
  rw [e1, e2]
/-- the words once i of them are done -/
def mixW (r u : Int) (i : Nat) : List Int := (words r).take i ++ (words u).drop i
theorem mixW_zero (r u : Int) : mixW r u 0 = words u := rfl
theorem mixW_full (r u : Int) : mixW r u 4 = words r := rfl
theorem mixW_length (r u : Int) (i : Nat) (h : i ≤ 4) : (mixW r u i).length = 4 := by simp [mixW, words_length]; omega
theorem mixW_getD (r u : Int) (i : Nat) (h : i < 4) : (mixW r u i).getD i 0 = (words u).getD i 0 := by
  have : i = 0 ∨ i = 1 ∨ i = 2 ∨ i = 3 := by omega
  rcases this with rfl | rfl | rfl | rfl <;> rfl
theorem mixW_set (r u : Int) (i : Nat) (h : i < 4) : (mixW r u i).set i ((words r).getD i 0) = mixW r u (i + 1) := by
  have : i = 0 ∨ i = 1 ∨ i = 2 ∨ i = 3 := by omega
  rcases this with rfl | rfl | rfl | rfl <;> rfl
theorem keeps_drew1 {w W : World} (h : Keeps w W) : Keeps w W.drew := Below.drew h
end Go.Proofs.YthfepfpmkckdnaaDoor
