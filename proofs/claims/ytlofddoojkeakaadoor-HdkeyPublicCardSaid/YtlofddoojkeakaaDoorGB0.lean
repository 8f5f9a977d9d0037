/- Numbers as lists of digits at any base: a digit set, a product row by row, a carry passed on. In plain Lean. | A region that draws its order: reads and calls that keep all memory, walked once, then its last operations in one forced order. No condition. -/
import Derived.Test.YtlofddoojkeakaaDoorGA8
import Derived.Test.YtlofddoojkeakaaDoorGA9
import Derived.Test.YtlofddoojkeakaaDoorGA0
import Derived.Lib.QuietBelow
namespace Go.Proofs.YtlofddoojkeakaaDoor
set_option linter.unusedVariables false
set_option linter.unusedSimpArgs false
open Go Go.RowKit

/-- the value of digits, the lowest first -/
def val (B : Int) : List Int → Int
  | [] => 0
  | a :: l => a + B * val B l
/-- all digits are digits -/
def Digs (B : Int) (l : List Int) : Prop := ∀ x ∈ l, 0 ≤ x ∧ x < B
theorem Digs.getD {B : Int} {l : List Int} (h : Digs B l) {i : Nat} (hi : i < l.length) : 0 ≤ l.getD i 0 ∧ l.getD i 0 < B := by
  have : l.getD i 0 = l[i] := by simp [List.getD, hi]
  rw [this]; exact h _ (List.getElem_mem hi)
theorem Digs.set {B : Int} {l : List Int} (h : Digs B l) (j : Nat) {r : Int} (h0 : 0 ≤ r) (h1 : r < B) : Digs B (l.set j r) := fun x hx => by
  rcases List.mem_or_eq_of_mem_set hx with hx | rfl
  · exact h _ hx
  · exact ⟨h0, h1⟩
theorem Digs.take {B : Int} {l : List Int} (h : Digs B l) (n : Nat) : Digs B (l.take n) := fun x hx => h x (List.mem_of_mem_take hx)
theorem Digs.drop {B : Int} {l : List Int} (h : Digs B l) (n : Nat) : Digs B (l.drop n) := fun x hx => h x (List.mem_of_mem_drop hx)
theorem Digs.append {B : Int} {a b : List Int} (h : Digs B a) (h' : Digs B b) : Digs B (a ++ b) := fun x hx => by
  rcases List.mem_append.1 hx with hx | hx
  · exact h x hx
  · exact h' x hx
theorem Digs.zeros {B : Int} (hB : 0 < B) (n : Nat) : Digs B (List.replicate n 0) := fun x hx => by
  have := List.eq_of_mem_replicate hx
  omega
theorem val_set (B : Int) (r : Int) : ∀ (l : List Int) (j : Nat), j < l.length → val B (l.set j r) = val B l + (r - l.getD j 0) * B ^ j
  | [], _, h => by simp at h
  | a :: l, 0, _ => by simp [val]; omega
  | a :: l, j + 1, h => by
    have ih := val_set B r l j (by simpa using h)
    simp only [List.set_cons_succ, val, List.getD_cons_succ, ih, Int.pow_succ, Int.mul_add]
    rw [show B * ((r - l.getD j 0) * B ^ j) = (r - l.getD j 0) * (B ^ j * B) by rw [Int.mul_comm B, Int.mul_assoc]]
    omega
theorem val_append (B : Int) (b : List Int) : ∀ (a : List Int), val B (a ++ b) = val B a + B ^ a.length * val B b
  | [] => by simp [val]
  | x :: a => by
    simp only [List.cons_append, val, val_append B b a, List.length_cons, Int.pow_succ, Int.mul_add]
    rw [show B ^ a.length * B * val B b = B * (B ^ a.length * val B b) by rw [Int.mul_comm (B ^ a.length) B, Int.mul_assoc]]
    omega
theorem val_zeros (B : Int) : ∀ n, val B (List.replicate n 0) = 0
  | 0 => rfl
  | n + 1 => by rw [List.replicate_succ, val, val_zeros B n]; simp
theorem val_range {B : Int} (hB : 0 < B) : ∀ {l : List Int}, Digs B l → 0 ≤ val B l ∧ val B l < B ^ l.length
  | [], _ => by simp [val]
  | a :: l, h => by
    have ih := val_range hB (l := l) (fun x hx => h x (by simp [hx]))
    have ha := h a (by simp)
    simp only [val, List.length_cons, Int.pow_succ]
    have h1 : 0 ≤ B * val B l := Int.mul_nonneg (Int.le_of_lt hB) ih.1
    have h2 : B * val B l ≤ B * (B ^ l.length - 1) := Int.mul_le_mul_of_nonneg_left (by omega) (Int.le_of_lt hB)
    have h3 : B * (B ^ l.length - 1) = B ^ l.length * B - B := by rw [Int.mul_sub, Int.mul_one, Int.mul_comm]
    omega
theorem val_split (B : Int) (l : List Int) (n : Nat) (h : n ≤ l.length) : val B l = val B (l.take n) + B ^ n * val B (l.drop n) := by
  conv => lhs; rw [← List.take_append_drop n l]
  rw [val_append, List.length_take, Nat.min_eq_left h]
theorem val_getD {B : Int} (hB : 0 < B) {l : List Int} (h : Digs B l) {j : Nat} (hj : j < l.length) : l.getD j 0 = val B l / B ^ j % B := by
  have hp : 0 < B ^ j := Int.pow_pos hB
  have h1 := val_range hB (h.take j)
  rw [List.length_take, Nat.min_eq_left (by omega)] at h1
  rw [val_split B l j (by omega), Int.add_mul_ediv_left _ _ (Int.ne_of_gt hp), Int.ediv_eq_zero_of_lt h1.1 h1.2, Int.zero_add, List.drop_eq_getElem_cons hj, val, Int.add_mul_emod_self_left]
  have : l.getD j 0 = l[j] := by simp [List.getD, hj]
  have h2 := h.getD hj
  rw [← this, Int.emod_eq_of_lt h2.1 h2.2]
/-- one digit of a product's row -/
theorem mul_step {B : Int} {L : List Int} {i k : Nat} {a b c c' t' T0 y : Int} (hB : 0 < B) (hl : i + k < L.length) (hb : b = y / B ^ k % B)
    (h : val B L + c * B ^ (i + k) = T0 + a * (y % B ^ k) * B ^ i) (e : t' + B * c' = a * b + c + L.getD (i + k) 0) : val B (L.set (i + k) t') + c' * B ^ (i + (k + 1)) = T0 + a * (y % B ^ (k + 1)) * B ^ i := by
  rw [val_set B t' L (i + k) hl, emod_pow_succ y B hB k, ← hb]
  have e1 : c' * B ^ (i + (k + 1)) = (B * c') * B ^ (i + k) := by rw [← Nat.add_assoc, Int.pow_succ, Int.mul_comm B c', Int.mul_assoc, Int.mul_comm B]
  have e2 : a * (y % B ^ k + B ^ k * b) * B ^ i = a * (y % B ^ k) * B ^ i + (a * b) * B ^ (i + k) := by
    rw [Int.mul_add, Int.add_mul, Int.pow_add]
    congr 1
    rw [Int.mul_comm (B ^ k) b, ← Int.mul_assoc a, Int.mul_assoc (a * b), Int.mul_comm (B ^ k)]
  rw [e1, e2, ← Int.add_assoc, ← h]
  have e3 : (t' - L.getD (i + k) 0) * B ^ (i + k) + B * c' * B ^ (i + k) = c * B ^ (i + k) + a * b * B ^ (i + k) := by
    rw [← Int.add_mul, ← Int.add_mul]
    congr 1
    omega
  omega
/-- a carry passed on by one digit -/
theorem carry_step' {B : Int} {L : List Int} {k : Nat} {c c' t' C : Int} (hl : k < L.length) (h : val B L + c * B ^ k = C) (e : t' + B * c' = L.getD k 0 + c) : val B (L.set k t') + c' * B ^ (k + 1) = C := by
  rw [val_set B t' L k hl, ← h]
  have e1 : c' * B ^ (k + 1) = (B * c') * B ^ k := by rw [Int.pow_succ, Int.mul_comm B c', Int.mul_assoc, Int.mul_comm B]
  have e3 : (t' - L.getD k 0) * B ^ k + B * c' * B ^ k = c * B ^ k := by
    rw [← Int.add_mul]
    congr 1
    omega
  rw [e1]
  omega
/-- there is no carry beyond what the number reaches -/
theorem carry_none {B : Int} {L : List Int} {k : Nat} {c C : Int} (hB : 0 < B) (hd : Digs B L) (hc : 0 ≤ c) (h : val B L + c * B ^ k = C) (hC : C < B ^ k) : c = 0 := by
  have h1 := (val_range hB hd).1
  refine Classical.byContradiction fun hne => ?_
  have h2 : B ^ k * 1 ≤ B ^ k * c := Int.mul_le_mul_of_nonneg_left (by omega) (Int.le_of_lt (Int.pow_pos hB))
  rw [Int.mul_comm (B ^ k) c] at h2
  omega
theorem ipow_le {B : Int} (h : 1 ≤ B) {n : Nat} : ∀ {k : Nat}, n ≤ k → B ^ n ≤ B ^ k
  | 0, h' => by obtain rfl : n = 0 := by omega
                exact Int.le_refl _
  | k + 1, h' => by
    by_cases e : n = k + 1
    · subst e; exact Int.le_refl _
    · have h1 := ipow_le h (n := n) (k := k) (by omega)
      have h2 : 0 < B ^ k := Int.pow_pos (by omega)
      have h3 : B ^ k * 1 ≤ B ^ k * B := Int.mul_le_mul_of_nonneg_left h (Int.le_of_lt h2)
      rw [Int.pow_succ]
      omega
theorem carry_below {B : Int} {L : List Int} {k n : Nat} {c C : Int} (hB : 1 ≤ B) (hd : Digs B L) (hc : 0 ≤ c) (hc0 : ¬ c = 0) (h : val B L + c * B ^ k = C) (hC : C < B ^ n) : k < n := by
  refine Nat.lt_of_not_le fun hle => hc0 (carry_none (by omega) hd hc h (Int.lt_of_lt_of_le hC ?_))
  exact ipow_le hB hle
theorem mul_start {B : Int} {L : List Int} {i : Nat} {T0 a y : Int} (h : val B L = T0) : val B L + 0 * B ^ (i + 0) = T0 + a * (y % B ^ 0) * B ^ i := by simp [h, Int.emod_one]
/-- a product's row is done: its carry is laid on top -/
theorem mul_row {B : Int} {L : List Int} {i n : Nat} {c x y : Int} (hB : 0 < B) (hl : i + n < L.length) (h0 : L.getD (i + n) 0 = 0) (hy : 0 ≤ y) (hy' : y < B ^ n)
    (h : val B L + c * B ^ (i + n) = x % B ^ i * y + x / B ^ i % B * (y % B ^ n) * B ^ i) : val B (L.set (i + n) c) = x % B ^ (i + 1) * y := by
  rw [val_set B c L _ hl, h0, Int.sub_zero, h, Int.emod_eq_of_lt hy hy', emod_pow_succ x B hB i, Int.add_mul]
  congr 1
  rw [Int.mul_comm (B ^ i), Int.mul_assoc, Int.mul_assoc, Int.mul_comm y]
theorem words_val {l : List Int} (h : Digs 18446744073709551616 l) (hl : l.length = 4) : l = words (val 18446744073709551616 l) := by
  apply List.ext_getElem (by rw [hl, words_length])
  intro j h1 h2
  have e := val_getD (by decide) h h1
  have e2 := words_getD' (val 18446744073709551616 l) j (by omega)
  rw [← e2] at e
  simpa [List.getD, h1, h2] using e
theorem B32_digs (v : Int) : Digs 4294967296 (words8 v) := fun x hx => by
  obtain ⟨i, hi, rfl⟩ := List.mem_map.1 hx
  omega
theorem words8_val {l : List Int} (h : Digs 4294967296 l) (hl : l.length = 8) : l = words8 (val 4294967296 l) := by
  apply List.ext_getElem (by rw [hl, words8_length])
  intro j h1 h2
  have e := val_getD (by decide) h h1
  have e2 := words8_getD (val 4294967296 l) j (by omega)
  rw [← e2] at e
  simpa [List.getD, h1, h2] using e
theorem val_words8 (v : Int) : val 4294967296 (words8 v) = v % 115792089237316195423570985008687907853269984665640564039457584007913129639936 := by
  simp [words8, List.range_succ, val]
  omega
/-- one digit: a product, a carry and a digit in two words -/
theorem mul_digit {a b c t : Int} (ha : 0 ≤ a ∧ a < 18446744073709551616) (hb : 0 ≤ b ∧ b < 18446744073709551616) (hc : 0 ≤ c ∧ c < 18446744073709551616) (ht : 0 ≤ t ∧ t < 18446744073709551616) :
    ∃ hi lo lo1 c1 t1 c2 : Int, a * b / 18446744073709551616 = hi ∧ a * b % 18446744073709551616 = lo ∧ (lo + c + 0) / 18446744073709551616 = c1 ∧ (lo + c + 0) % 18446744073709551616 = lo1 ∧ (t + lo1 + 0) / 18446744073709551616 = c2 ∧ (t + lo1 + 0) % 18446744073709551616 = t1 ∧
      0 ≤ hi ∧ hi + c1 < 18446744073709551616 ∧ 0 ≤ lo ∧ lo < 18446744073709551616 ∧ 0 ≤ lo1 ∧ lo1 < 18446744073709551616 ∧ 0 ≤ c1 ∧ c1 ≤ 1 ∧ 0 ≤ c2 ∧ c2 ≤ 1 ∧ 0 ≤ t1 ∧ t1 < 18446744073709551616 ∧ hi + c1 + c2 < 18446744073709551616 ∧ t1 + 18446744073709551616 * (hi + c1 + c2) = a * b + c + t := by
  have h0 : 0 ≤ a * b := Int.mul_nonneg ha.1 hb.1
  have h1 : a * b ≤ 18446744073709551615 * 18446744073709551615 := Int.le_trans (Int.mul_le_mul_of_nonneg_right (show a ≤ 18446744073709551615 by omega) hb.1) (Int.mul_le_mul_of_nonneg_left (by omega) (by decide))
  generalize a * b = p at *
  refine ⟨_, _, _, _, _, _, rfl, rfl, rfl, rfl, rfl, rfl, ?_⟩
  omega
theorem bits_or_comm (k : IntKind) (x y : Int) : bits .or k x y = bits .or k y x := by
  unfold bits; simp only [BitVec.or_comm]
theorem wrap_u64_nat (b : BitVec 64) : IntKind.u64.wrap (b.toNat : Int) = (b.toNat : Int) := by
  have := b.isLt
  rw [IntKind.wrap_u64]; omega
theorem bits_or_range (x y : Int) : 0 ≤ bits .or .u64 x y ∧ bits .or .u64 x y < 18446744073709551616 := by
  have e : bits .or .u64 x y = (((BitVec.ofInt 64 x ||| BitVec.ofInt 64 y) : BitVec 64).toNat : Int) := wrap_u64_nat _
  rw [e]
  have := (BitVec.ofInt 64 x ||| BitVec.ofInt 64 y).isLt
  omega
theorem ofInt64_zero {x : Int} (h0 : 0 ≤ x) (h1 : x < 18446744073709551616) : BitVec.ofInt 64 x = 0#64 ↔ x = 0 := by
  constructor
  · intro h
    have := congrArg BitVec.toNat h
    rw [BitVec.toNat_ofInt] at this
    simp at this
    omega
  · rintro rfl; rfl
theorem bits_or_zero {x y : Int} (h0 : 0 ≤ x) (h1 : x < 18446744073709551616) (h2 : 0 ≤ y) (h3 : y < 18446744073709551616) : bits .or .u64 x y = 0 ↔ x = 0 ∧ y = 0 := by
  have e : bits .or .u64 x y = (((BitVec.ofInt 64 x ||| BitVec.ofInt 64 y) : BitVec 64).toNat : Int) := wrap_u64_nat _
  rw [e, ← ofInt64_zero h0 h1, ← ofInt64_zero h2 h3, ← BitVec.or_eq_zero_iff]
  constructor
  · intro h
    apply BitVec.eq_of_toNat_eq
    simpa using h
  · intro h
    rw [h]; rfl
theorem bits_and_one {x : Int} (h0 : 0 ≤ x) (h1 : x < 18446744073709551616) : bits .and .u64 x 1 = x % 2 := by
  have e : bits .and .u64 x 1 = (((BitVec.ofInt 64 x &&& BitVec.ofInt 64 1) : BitVec 64).toNat : Int) := wrap_u64_nat _
  rw [e, BitVec.toNat_and, BitVec.toNat_ofInt, BitVec.toNat_ofInt]
  obtain ⟨n, rfl⟩ := Int.eq_ofNat_of_zero_le h0
  have e1 : ((n : Int) % ((2 ^ 64 : Nat) : Int)).toNat = n := by omega
  have e2 : ((1 : Int) % ((2 ^ 64 : Nat) : Int)).toNat = 1 := by decide
  rw [e1, e2, Nat.and_one_is_mod]
  omega
end Go.Proofs.YtlofddoojkeakaaDoor
