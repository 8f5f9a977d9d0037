/- Numbers of 256 bits as lists of bytes and of words, in plain Lean. -/
import Derived.Test.YthfepfpmkckdnaaDoorOwn
namespace Go.Proofs.YthfepfpmkckdnaaDoor
set_option linter.unusedVariables false
set_option linter.unusedSimpArgs false
open Go Go.RowKit

theorem snoc_ind {P : List Int → Prop} (h0 : P []) (hs : ∀ l x, P l → P (l ++ [x])) (l : List Int) : P l := by
  rw [← List.reverse_reverse l]
  induction l.reverse with
  | nil => exact h0
  | cons a r ih => rw [List.reverse_cons]; exact hs _ _ ih
/-- the number that bytes tell, the greatest first -/
def be (l : List Int) : Int := l.foldl (fun a c => a * 256 + c) 0
theorem be_snoc (l : List Int) (c : Int) : be (l ++ [c]) = be l * 256 + c := by simp [be, List.foldl_append]
theorem be_nil : be [] = 0 := rfl
theorem be_append (a b : List Int) : be (a ++ b) = be a * 256 ^ b.length + be b := by
  induction b using snoc_ind with
  | h0 => simp [be]
  | hs b c ih =>
    rw [← List.append_assoc, be_snoc, ih, be_snoc, List.length_append, List.length_singleton, Int.pow_succ, Int.add_mul, Int.mul_assoc, Int.add_assoc]
theorem be_range {l : List Int} (h : Bytes l) : 0 ≤ be l ∧ be l < 256 ^ l.length := by
  induction l using snoc_ind with
  | h0 => simp [be]
  | hs b c ih =>
    have hb := ih (fun x hx => h x (by simp [hx]))
    have hc := h c (by simp)
    rw [be_snoc, List.length_append, List.length_singleton, Int.pow_succ]
    obtain ⟨h1, h2⟩ := hb
    obtain ⟨h3, h4⟩ := hc
    omega
/-- k bytes of a number, the greatest first -/
def toB : Nat → Int → List Int
  | 0, _ => []
  | k + 1, v => toB k (v / 256) ++ [v % 256]
theorem toB_length (k : Nat) (v : Int) : (toB k v).length = k := by
  induction k generalizing v with
  | zero => rfl
  | succ k ih => simp [toB, ih]
theorem toB_bytes (k : Nat) (v : Int) : Bytes (toB k v) := by
  induction k generalizing v with
  | zero => intro x hx; simp [toB] at hx
  | succ k ih =>
    intro x hx
    simp only [toB, List.mem_append, List.mem_singleton] at hx
    rcases hx with hx | rfl
    · exact ih _ x hx
    · exact ⟨by omega, by omega⟩
theorem toB_be {l : List Int} (h : Bytes l) : toB l.length (be l) = l := by
  induction l using snoc_ind with
  | h0 => rfl
  | hs b c ih =>
    have hc := h c (by simp)
    obtain ⟨h3, h4⟩ := hc
    rw [List.length_append, List.length_singleton, toB, be_snoc]
    rw [show (be b * 256 + c) / 256 = be b by omega, show (be b * 256 + c) % 256 = c by omega, ih (fun x hx => h x (by simp [hx]))]
theorem toB_be' {l : List Int} (h : Bytes l) {n : Nat} (hl : l.length = n) : toB n (be l) = l := by subst hl; exact toB_be h
theorem be_toB (k : Nat) (v : Int) : be (toB k v) = v % 256 ^ k := by
  induction k generalizing v with
  | zero => simp [toB, be, Int.emod_one]
  | succ k ih =>
    rw [toB, be_snoc, ih, Int.pow_succ]
    have hM : (0 : Int) < 256 ^ k := Int.pow_pos (by decide)
    have key : ∀ s t r M : Int, 0 ≤ s → s < M → 0 ≤ r → r < 256 → (s * 256 + r + M * 256 * t) % (M * 256) = s * 256 + r := by
      intro s t r M h1 h2 h3 h4
      rw [Int.add_mul_emod_self_left, Int.emod_eq_of_lt (by omega) (by omega)]
    have h1 := Int.emod_add_mul_ediv (v / 256) (256 ^ k)
    have h5 := key _ (v / 256 / 256 ^ k) (v % 256) _ (Int.emod_nonneg (v / 256) (Int.ne_of_gt hM)) (Int.emod_lt_of_pos (v / 256) hM) (by omega) (by omega)
    rw [← h5]
    congr 1
    rw [Int.mul_assoc, Int.mul_comm 256 (v / 256 / 256 ^ k), ← Int.mul_assoc]
    generalize 256 ^ k * (v / 256 / 256 ^ k) = A at *
    generalize v / 256 % 256 ^ k = B at *
    omega
theorem toB_getD (k : Nat) (v : Int) (i : Nat) (h : i < k) : (toB k v).getD i 0 = v / 256 ^ (k - 1 - i) % 256 := by
  induction k generalizing v i with
  | zero => omega
  | succ k ih =>
    by_cases hi : i < k
    · have e : (toB (k + 1) v).getD i 0 = (toB k (v / 256)).getD i 0 := by
        simp [toB, List.getD, List.getElem?_append_left, toB_length, hi]
      rw [e, ih _ _ hi, show k + 1 - 1 - i = (k - 1 - i) + 1 by omega, Int.pow_succ', Int.ediv_ediv_of_nonneg (by decide)]
    · obtain rfl : i = k := by omega
      simp [toB, List.getD, toB_length]
/-- the first i of a list, then noughts, N in all -/
def upto0 (l : List Int) (N i : Nat) : List Int := l.take i ++ List.replicate (N - i) 0
theorem upto0_zero (l : List Int) (N : Nat) : upto0 l N 0 = List.replicate N 0 := by simp [upto0]
theorem upto0_full (l : List Int) (N : Nat) (h : l.length = N) : upto0 l N N = l := by simp [upto0, ← h]
theorem upto0_length (l : List Int) (N i : Nat) (h : l.length = N) (hi : i ≤ N) : (upto0 l N i).length = N := by simp [upto0, h]; omega
theorem upto0_set (l : List Int) (N i : Nat) (h : l.length = N) (hi : i < N) : (upto0 l N i).set i (l.getD i 0) = upto0 l N (i + 1) := by
  have hl : i < l.length := by omega
  unfold upto0
  have e : i - (l.take i).length = 0 := by simp; omega
  rw [List.set_append_right _ _ (by simp; omega), e, show N - i = (N - (i + 1)) + 1 by omega, List.replicate_succ, List.set_cons_zero, List.take_succ_eq_append_getElem hl, List.append_assoc]
  simp [List.getD, hl]
/-- the same from behind: noughts, then the last of a list -/
def down0 (l : List Int) (N i : Nat) : List Int := List.replicate i 0 ++ l.drop i
theorem down0_full (l : List Int) (N : Nat) (h : l.length = N) : down0 l N N = List.replicate N 0 := by simp [down0, ← h]
theorem down0_zero (l : List Int) (N : Nat) : down0 l N 0 = l := by simp [down0]
theorem down0_length (l : List Int) (N i : Nat) (h : l.length = N) (hi : i ≤ N) : (down0 l N i).length = N := by simp [down0, h]; omega
theorem down0_set (l : List Int) (N i : Nat) (h : l.length = N) (hi : i < N) : (down0 l N (i + 1)).set i (l.getD i 0) = down0 l N i := by
  have hl : i < l.length := by omega
  unfold down0
  rw [List.replicate_succ', List.append_assoc, List.set_append_right _ _ (by simp), List.length_replicate, Nat.sub_self, List.singleton_append, List.set_cons_zero]
  congr 1
  rw [List.drop_eq_getElem_cons hl]
  simp [List.getD, hl]
/-- the four words of a number, the lowest first -/
def words (v : Int) : List Int := [v % 18446744073709551616, v / 18446744073709551616 % 18446744073709551616, v / 340282366920938463463374607431768211456 % 18446744073709551616, v / 6277101735386680763835789423207666416102355444464034512896 % 18446744073709551616]
theorem words_length (v : Int) : (words v).length = 4 := rfl
/-- of two bytes' rows of one length the first that differs tells which number is less -/
theorem be_lt {p a b : List Int} {x y : Int} (hl : a.length = b.length) (ha : Bytes a) (hb : Bytes b) (hxy : x < y) : be (p ++ x :: a) < be (p ++ y :: b) := by
  rw [be_append, be_append, show x :: a = [x] ++ a from rfl, show y :: b = [y] ++ b from rfl, be_append, be_append]
  have h1 := be_range ha
  have h2 := be_range hb
  simp only [List.length_append, List.length_cons, List.length_nil, hl, be, List.foldl_cons, List.foldl_nil] at *
  have h3 : (x : Int) * 256 ^ b.length + 256 ^ b.length ≤ y * 256 ^ b.length := by
    have : (x + 1) * 256 ^ b.length ≤ y * 256 ^ b.length := Int.mul_le_mul_of_nonneg_right (by omega) (Int.pow_nonneg (by decide))
    rw [Int.add_mul, Int.one_mul] at this
    exact this
  simp only [Int.zero_mul, Int.zero_add]
  generalize List.foldl (fun a c : Int => a * 256 + c) 0 a = A at *
  generalize List.foldl (fun a c : Int => a * 256 + c) 0 b = B at *
  omega
theorem be_split {l : List Int} {i : Nat} (h : i < l.length) : l = l.take i ++ l.getD i 0 :: l.drop (i + 1) := by
  conv => lhs; rw [← List.take_append_drop i l, List.drop_eq_getElem_cons h]
  simp [List.getD, h]
theorem be_less_at {a b : List Int} {i : Nat} (ha : Bytes a) (hb : Bytes b) (hl : a.length = b.length) (hi : i < a.length) (ht : a.take i = b.take i) (hx : a.getD i 0 < b.getD i 0) : be a < be b := by
  rw [be_split hi, be_split (l := b) (i := i) (by omega), ht]
  exact be_lt (by simp [hl]) (fun x h => ha x (List.mem_of_mem_drop h)) (fun x h => hb x (List.mem_of_mem_drop h)) hx
theorem take_next {a b : List Int} {i : Nat} (hl : a.length = b.length) (hi : i < a.length) (ht : a.take i = b.take i) (hx : a.getD i 0 = b.getD i 0) : a.take (i + 1) = b.take (i + 1) := by
  rw [List.take_succ_eq_append_getElem hi, List.take_succ_eq_append_getElem (by omega : i < b.length), ht]
  have h1 : a.getD i 0 = a[i] := by simp [List.getD, hi]
  have h2 : b.getD i 0 = b[i] := by simp [List.getD, show i < b.length by omega]
  rw [← h1, ← h2, hx]
/-- less, equal, greater -/
def cmpZ (x y : Int) : Int := if x < y then -1 else if y < x then 1 else 0
end Go.Proofs.YthfepfpmkckdnaaDoor
