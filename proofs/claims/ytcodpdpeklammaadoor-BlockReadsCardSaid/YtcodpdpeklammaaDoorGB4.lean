/- wire's Reader: what it holds; take, which may stop. | Numbers of 256 bits as lists of bytes and of words, in plain Lean. -/
import Derived.Test.YtcodpdpeklammaaDoorGA4
import Derived.Test.YtcodpdpeklammaaDoorGA2
namespace Go.Proofs.YtcodpdpeklammaaDoor
set_option linter.unusedVariables false
set_option linter.unusedSimpArgs false
open Go Go.RowKit
variable {B : Nat}

/-- the value is a slice (nil, or at a place) that reads l, not in block g -/
def SrcB (B : Nat) (W : World) (g : Nat) (v : Value) (l : List Int) : Prop :=
  (v = .slice none 0 0 ∧ l = []) ∨ ∃ b off cap, v = .slice (some ⟨b, off, none⟩) l.length cap ∧ l.length ≤ cap ∧ cap ≤ maxLen ∧ (b < B ∧ B ≤ W.heap.size) ∧ b ≠ g ∧ Row W b off (l.map (Value.int .u8))
theorem SrcB.chg {W W' : World} {g : Nat} {v : Value} {l : List Int} (h : SrcB B W g v l) (hc : Chg (· = g) W W') : SrcB B W' g v l := by
  rcases h with h | ⟨b, off, cap, h1, h2, h3, h4, h5, h6⟩
  · exact .inl h
  · exact .inr ⟨b, off, cap, h1, h2, h3, ⟨h4.1, Nat.le_trans h4.2 hc.size⟩, h5, h6.chg hc h5⟩
theorem SrcB.rd {W : World} {g : Nat} {v : Value} {l : List Int} (h : SrcB B W g v l) : Rd W 1 v l.length (l.map (Value.int .u8)) := by
  rcases h with ⟨rfl, rfl⟩ | ⟨b, off, cap, rfl, h2, h3, h4, h5, h6⟩
  · exact ⟨by simp, none, 0, rfl, Nat.le_refl _, Nat.zero_le _, fun _ => ⟨rfl, rfl⟩, fun ad e _ => (by cases e)⟩
  · exact Rd.of_row h6 (by simp) (Nat.lt_of_lt_of_le h4.1 h4.2) h2 h3
/-- a reader in block g: what is left, the first error -/
structure RdAt (B : Nat) (W : World) (g : Nat) (v : Value) (e : Int) (l : List Int) : Prop where
  row : Row W g 0 [v, .int .i64 e]
  src : SrcB B W g v l
  bytes : Bytes l
  small : l.length ≤ 140737488355328
theorem RdAt.cells {W : World} {g : Nat} {v : Value} {e : Int} {l : List Int} (h : RdAt B W g v e l) : W.cell? ⟨g, 0, none⟩ = some v ∧ W.frozen? ⟨g, 0, none⟩ = false ∧ W.cell? ⟨g, 1, none⟩ = some (.int .i64 e) ∧ W.frozen? ⟨g, 1, none⟩ = false := by
  have h0 := h.row 0 _ rfl
  have h1 := h.row 1 _ rfl
  exact ⟨h0.1, h0.2, h1.1, h1.2⟩
theorem RdAt.keeps {W W' : World} {g : Nat} {v : Value} {e : Int} {l : List Int} (h : RdAt B W g v e l) (hk : Keeps W W') : RdAt B W' g v e l := ⟨h.row.keeps hk, h.src.chg (hk.chg _), h.bytes, h.small⟩
theorem setg (W : World) (g : Nat) (v : Value) : Chg (· = g) W (W.setCell ⟨g, 0, none⟩ v) := Chg.setCell (p := ⟨g, 0, none⟩) (Chg.refl (· = g) W) (.inr rfl) v
theorem RdAt.put {W : World} {g : Nat} {v v' : Value} {e : Int} {l l' : List Int} (h : RdAt B W g v e l) (hs : SrcB B W g v' l') (hb : Bytes l') (hsm : l'.length ≤ 140737488355328) : RdAt B (W.setCell ⟨g, 0, none⟩ v') g v' e l' :=
  ⟨by have := h.row.set 0 (by simp) v'; simpa using this, hs.chg (setg _ _ _), hb, hsm⟩
theorem Bytes.drop' {l : List Int} (h : Bytes l) (n : Nat) : Bytes (l.drop n) := fun x hx => h x (List.mem_of_mem_drop hx)
theorem Bytes.take' {l : List Int} (h : Bytes l) (n : Nat) : Bytes (l.take n) := fun x hx => h x (List.mem_of_mem_take hx)
theorem SrcB.split {W : World} {g b off cap : Nat} {l : List Int} (h : SrcB B W g (.slice (some ⟨b, off, none⟩) l.length cap) l) (n : Nat) (hn : n ≤ l.length) :
    SrcB B W g (.slice (some ⟨b, off, none⟩) n cap) (l.take n) ∧ SrcB B W g (.slice (some ⟨b, off + n, none⟩) (l.length - n) (cap - n)) (l.drop n) := by
  rcases h with ⟨h, _⟩ | ⟨b', off', cap', h1, h2, h3, h4, h5, h6⟩
  · cases h
  · cases h1
    have hl : (l.take n).length = n := by simp; omega
    have hd : (l.drop n).length = l.length - n := by simp
    refine ⟨.inr ⟨b, off, cap, by rw [hl], by omega, h3, h4, h5, ?_⟩, .inr ⟨b, off + n, cap - n, by rw [hd], by omega, by omega, h4, h5, ?_⟩⟩
    · rw [List.map_take]; exact h6.take n
    · rw [List.map_drop]; exact h6.drop n
/-- what reading stops with -/
def stopV (c : Int) : Value := .iface 92 (.int .i64 c)
def stopC (c : Int) : List PanicEntry := [{ v := stopV c, recovered := false }]
/-- what take does -/
def TakeP (B : Nat) (g : Nat) (e : Int) (l : List Int) (n : Nat) (w : World) (r : Ending) (w' : World) : Prop :=
  (l.length < n ∧ r = .panicked (stopC 4) ∧ w' = w) ∨ (n ≤ l.length ∧ ∃ s v', r = .returned s ∧ SrcB B w' g s (l.take n) ∧ RdAt B w' g v' e (l.drop n) ∧ Chg (· = g) w w')
set_option maxRecDepth 100000 in
theorem take_any (g : Nat) (v : Value) (e : Int) (l : List Int) (n : Nat) (hn : n ≤ 140737488355328) (w : World) (h : RdAt B w g v e l) :
    Calls Tryd.prog 42 #[.pointer (some ⟨g, 0, none⟩), .int .i64 n] w (TakeP B g e l n w) := by
  have HH := Lib.hid h
  obtain ⟨c0, f0, c1, f1⟩ := h.cells
  rcases h.src with ⟨rfl, rfl⟩ | ⟨b, off, cap, rfl, h2, h3, h4, h5, h6⟩
  · by_cases h0 : n = 0
    · subst h0
      clear h
      go_enter Tryd.func42, Tryd.ntmps42
      go_wp2
      go_ret
      refine .inr ⟨Nat.le_refl _, .slice none 0 0, .slice none 0 0, rfl, .inl ⟨rfl, rfl⟩, ?_, setg _ _ _⟩
      exact HH.out.put (.inl ⟨rfl, rfl⟩) HH.out.bytes HH.out.small
    · have hlt : (0 : Int) < (n : Int) := by omega
      clear h
      go_enter Tryd.func42, Tryd.ntmps42
      go_wp2
      exact ⟨rfl, .inl ⟨by show 0 < n; omega, rfl, rfl⟩⟩
  · by_cases hlt : l.length < n
    · have hlt2 : (l.length : Int) < (n : Int) := by omega
      clear h h2 h3 h4 h5 h6
      go_enter Tryd.func42, Tryd.ntmps42
      go_wp2
      exact ⟨rfl, .inl ⟨hlt, rfl, rfl⟩⟩
    · have hle : n ≤ l.length := by omega
      have hle2 : n ≤ cap := by omega
      have HSP := Lib.hid (h.src.split n hle)
      have hnl : ¬ ((l.length : Int) < (n : Int)) := by omega
      by_cases hnc : n = cap
      · obtain rfl : n = cap := hnc
        have hll : l.length = n := by omega
        have hnil : l.drop n = [] := List.drop_eq_nil_of_le (by omega)
        have HLL := Lib.hid hll; have HNIL := Lib.hid hnil; have H4 := Lib.hid h4; have H5 := Lib.hid h5
        clear h h2 h4 h5 h6 hll hnil
        go_enter Tryd.func42, Tryd.ntmps42
        go_wp2
        go_ret
        have hs2 : SrcB B w g (.slice (some ⟨b, off, none⟩) (l.length - n) 0) (l.drop n) := .inr ⟨b, off, 0, by rw [HNIL.out, HLL.out]; simp, by rw [HNIL.out]; exact Nat.zero_le _, Nat.zero_le _, H4.out, H5.out, by rw [HNIL.out]; intro j u hu; simp at hu⟩
        exact .inr ⟨hle, .slice (some ⟨b, off, none⟩) n n, .slice (some ⟨b, off, none⟩) (l.length - n) 0, rfl, HSP.out.1.chg (setg _ _ _), HH.out.put hs2 (HH.out.bytes.drop' n) (by have := HH.out.small; simp; omega), setg _ _ _⟩
      · have hnc2 : n < cap := by omega
        clear h h2 h4 h5 h6 hnc
        go_enter Tryd.func42, Tryd.ntmps42
        go_wp2
        go_ret
        exact .inr ⟨hle, .slice (some ⟨b, off, none⟩) n cap, .slice (some ⟨b, off + n, none⟩) (l.length - n) (cap - n), rfl, HSP.out.1.chg (setg _ _ _), HH.out.put HSP.out.2 (HH.out.bytes.drop' n) (by have := HH.out.small; simp; omega), setg _ _ _⟩
end Go.Proofs.YtcodpdpeklammaaDoor
namespace Go.Proofs.YtcodpdpeklammaaDoor
set_option linter.unusedVariables false
set_option linter.unusedSimpArgs false
open Go Go.RowKit

theorem snoc_ind {P : List Int → Prop} (h0 : P []) (hs : ∀ l x, P l → P (l ++ [x])) (l : List Int) : P l := by
  rw [← List.reverse_reverse l]
  induction l.reverse with
  | nil => exact h0
  | cons a r ih => rw [List.reverse_cons]; exact hs _ _ ih
/-- the number that bytes tell, the greatest first -/
def be (l : List Int) : Int := l.foldl (fun a c => a * 256 + c) 0
theorem be_snoc (l : List Int) (c : Int) : be (l ++ [c]) = be l * 256 + c := by simp [be, List.foldl_append]
theorem be_nil : be [] = 0 := rfl
theorem be_append (a b : List Int) : be (a ++ b) = be a * 256 ^ b.length + be b := by
  induction b using snoc_ind with
  | h0 => simp [be]
  | hs b c ih =>
    rw [← List.append_assoc, be_snoc, ih, be_snoc, List.length_append, List.length_singleton, Int.pow_succ, Int.add_mul, Int.mul_assoc, Int.add_assoc]
theorem be_range {l : List Int} (h : Bytes l) : 0 ≤ be l ∧ be l < 256 ^ l.length := by
  induction l using snoc_ind with
  | h0 => simp [be]
  | hs b c ih =>
    have hb := ih (fun x hx => h x (by simp [hx]))
    have hc := h c (by simp)
    rw [be_snoc, List.length_append, List.length_singleton, Int.pow_succ]
    obtain ⟨h1, h2⟩ := hb
    obtain ⟨h3, h4⟩ := hc
    omega
/-- k bytes of a number, the greatest first -/
def toB : Nat → Int → List Int
  | 0, _ => []
  | k + 1, v => toB k (v / 256) ++ [v % 256]
theorem toB_length (k : Nat) (v : Int) : (toB k v).length = k := by
  induction k generalizing v with
  | zero => rfl
  | succ k ih => simp [toB, ih]
theorem toB_bytes (k : Nat) (v : Int) : Bytes (toB k v) := by
  induction k generalizing v with
  | zero => intro x hx; simp [toB] at hx
  | succ k ih =>
    intro x hx
    simp only [toB, List.mem_append, List.mem_singleton] at hx
    rcases hx with hx | rfl
    · exact ih _ x hx
    · exact ⟨by omega, by omega⟩
theorem toB_be {l : List Int} (h : Bytes l) : toB l.length (be l) = l := by
  induction l using snoc_ind with
  | h0 => rfl
  | hs b c ih =>
    have hc := h c (by simp)
    obtain ⟨h3, h4⟩ := hc
    rw [List.length_append, List.length_singleton, toB, be_snoc]
    rw [show (be b * 256 + c) / 256 = be b by omega, show (be b * 256 + c) % 256 = c by omega, ih (fun x hx => h x (by simp [hx]))]
theorem toB_be' {l : List Int} (h : Bytes l) {n : Nat} (hl : l.length = n) : toB n (be l) = l := by subst hl; exact toB_be h
theorem be_toB (k : Nat) (v : Int) : be (toB k v) = v % 256 ^ k := by
  induction k generalizing v with
  | zero => simp [toB, be, Int.emod_one]
  | succ k ih =>
    rw [toB, be_snoc, ih, Int.pow_succ]
    have hM : (0 : Int) < 256 ^ k := Int.pow_pos (by decide)
    have key : ∀ s t r M : Int, 0 ≤ s → s < M → 0 ≤ r → r < 256 → (s * 256 + r + M * 256 * t) % (M * 256) = s * 256 + r := by
      intro s t r M h1 h2 h3 h4
      rw [Int.add_mul_emod_self_left, Int.emod_eq_of_lt (by omega) (by omega)]
    have h1 := Int.emod_add_mul_ediv (v / 256) (256 ^ k)
    have h5 := key _ (v / 256 / 256 ^ k) (v % 256) _ (Int.emod_nonneg (v / 256) (Int.ne_of_gt hM)) (Int.emod_lt_of_pos (v / 256) hM) (by omega) (by omega)
    rw [← h5]
    congr 1
    rw [Int.mul_assoc, Int.mul_comm 256 (v / 256 / 256 ^ k), ← Int.mul_assoc]
    generalize 256 ^ k * (v / 256 / 256 ^ k) = A at *
    generalize v / 256 % 256 ^ k = B at *
    omega
theorem toB_getD (k : Nat) (v : Int) (i : Nat) (h : i < k) : (toB k v).getD i 0 = v / 256 ^ (k - 1 - i) % 256 := by
  induction k generalizing v i with
  | zero => omega
  | succ k ih =>
    by_cases hi : i < k
    · have e : (toB (k + 1) v).getD i 0 = (toB k (v / 256)).getD i 0 := by
        simp [toB, List.getD, List.getElem?_append_left, toB_length, hi]
      rw [e, ih _ _ hi, show k + 1 - 1 - i = (k - 1 - i) + 1 by omega, Int.pow_succ', Int.ediv_ediv_of_nonneg (by decide)]
    · obtain rfl : i = k := by omega
      simp [toB, List.getD, toB_length]
/-- the first i of a list, then noughts, N in all -/
def upto0 (l : List Int) (N i : Nat) : List Int := l.take i ++ List.replicate (N - i) 0
theorem upto0_zero (l : List Int) (N : Nat) : upto0 l N 0 = List.replicate N 0 := by simp [upto0]
theorem upto0_full (l : List Int) (N : Nat) (h : l.length = N) : upto0 l N N = l := by simp [upto0, ← h]
theorem upto0_length (l : List Int) (N i : Nat) (h : l.length = N) (hi : i ≤ N) : (upto0 l N i).length = N := by simp [upto0, h]; omega
theorem upto0_set (l : List Int) (N i : Nat) (h : l.length = N) (hi : i < N) : (upto0 l N i).set i (l.getD i 0) = upto0 l N (i + 1) := by
  have hl : i < l.length := by omega
  unfold upto0
  have e : i - (l.take i).length = 0 := by simp; omega
  rw [List.set_append_right _ _ (by simp; omega), e, show N - i = (N - (i + 1)) + 1 by omega, List.replicate_succ, List.set_cons_zero, List.take_succ_eq_append_getElem hl, List.append_assoc]
  simp [List.getD, hl]
/-- the same from behind: noughts, then the last of a list -/
def down0 (l : List Int) (N i : Nat) : List Int := List.replicate i 0 ++ l.drop i
theorem down0_full (l : List Int) (N : Nat) (h : l.length = N) : down0 l N N = List.replicate N 0 := by simp [down0, ← h]
theorem down0_zero (l : List Int) (N : Nat) : down0 l N 0 = l := by simp [down0]
theorem down0_length (l : List Int) (N i : Nat) (h : l.length = N) (hi : i ≤ N) : (down0 l N i).length = N := by simp [down0, h]; omega
theorem down0_set (l : List Int) (N i : Nat) (h : l.length = N) (hi : i < N) : (down0 l N (i + 1)).set i (l.getD i 0) = down0 l N i := by
  have hl : i < l.length := by omega
  unfold down0
  rw [List.replicate_succ', List.append_assoc, List.set_append_right _ _ (by simp), List.length_replicate, Nat.sub_self, List.singleton_append, List.set_cons_zero]
  congr 1
  rw [List.drop_eq_getElem_cons hl]
  simp [List.getD, hl]
/-- the four words of a number, the lowest first -/
def words (v : Int) : List Int := [v % 18446744073709551616, v / 18446744073709551616 % 18446744073709551616, v / 340282366920938463463374607431768211456 % 18446744073709551616, v / 6277101735386680763835789423207666416102355444464034512896 % 18446744073709551616]
theorem words_length (v : Int) : (words v).length = 4 := rfl
/-- of two bytes' rows of one length the first that differs tells which number is less -/
theorem be_lt {p a b : List Int} {x y : Int} (hl : a.length = b.length) (ha : Bytes a) (hb : Bytes b) (hxy : x < y) : be (p ++ x :: a) < be (p ++ y :: b) := by
  rw [be_append, be_append, show x :: a = [x] ++ a from rfl, show y :: b = [y] ++ b from rfl, be_append, be_append]
  have h1 := be_range ha
  have h2 := be_range hb
  simp only [List.length_append, List.length_cons, List.length_nil, hl, be, List.foldl_cons, List.foldl_nil] at *
  have h3 : (x : Int) * 256 ^ b.length + 256 ^ b.length ≤ y * 256 ^ b.length := by
    have : (x + 1) * 256 ^ b.length ≤ y * 256 ^ b.length := Int.mul_le_mul_of_nonneg_right (by omega) (Int.pow_nonneg (by decide))
    rw [Int.add_mul, Int.one_mul] at this
    exact this
  simp only [Int.zero_mul, Int.zero_add]
  generalize List.foldl (fun a c : Int => a * 256 + c) 0 a = A at *
  generalize List.foldl (fun a c : Int => a * 256 + c) 0 b = B at *
  omega
theorem be_split {l : List Int} {i : Nat} (h : i < l.length) : l = l.take i ++ l.getD i 0 :: l.drop (i + 1) := by
  conv => lhs; rw [← List.take_append_drop i l, List.drop_eq_getElem_cons h]
  simp [List.getD, h]
theorem be_less_at {a b : List Int} {i : Nat} (ha : Bytes a) (hb : Bytes b) (hl : a.length = b.length) (hi : i < a.length) (ht : a.take i = b.take i) (hx : a.getD i 0 < b.getD i 0) : be a < be b := by
  rw [be_split hi, be_split (l := b) (i := i) (by omega), ht]
  exact be_lt (by simp [hl]) (fun x h => ha x (List.mem_of_mem_drop h)) (fun x h => hb x (List.mem_of_mem_drop h)) hx
theorem take_next {a b : List Int} {i : Nat} (hl : a.length = b.length) (hi : i < a.length) (ht : a.take i = b.take i) (hx : a.getD i 0 = b.getD i 0) : a.take (i + 1) = b.take (i + 1) := by
  rw [List.take_succ_eq_append_getElem hi, List.take_succ_eq_append_getElem (by omega : i < b.length), ht]
  have h1 : a.getD i 0 = a[i] := by simp [List.getD, hi]
  have h2 : b.getD i 0 = b[i] := by simp [List.getD, show i < b.length by omega]
  rw [← h1, ← h2, hx]
/-- less, equal, greater -/
def cmpZ (x y : Int) : Int := if x < y then -1 else if y < x then 1 else 0
end Go.Proofs.YtcodpdpeklammaaDoor
