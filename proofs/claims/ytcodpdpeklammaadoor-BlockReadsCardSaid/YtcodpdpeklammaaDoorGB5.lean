/- Numbers of 256 bits: the reference's Less and Sum. | Numbers of 256 bits: block's words, their sum, and back. | wire's Reader: number. -/
import Derived.Test.YtcodpdpeklammaaDoorGB4
import Derived.Laws.CopyOwn
import Derived.Deep.Cut
import Derived.Deep.LoopGhost
import Derived.StillTail
import Derived.Deep.RegionHeld3
import Derived.Lib.QuietBelow
import Derived.Stop.BytesEq
import Derived.Laws.Externs
namespace Go.Proofs.YtcodpdpeklammaaDoor
set_option linter.unusedVariables false
set_option linter.unusedSimpArgs false
open Go Go.RowKit

theorem nm_keeps_alloc {w W : World} (h : Keeps w W) (o : Obj) : Keeps w (W.alloc o) := Below.alloc h h.size o
theorem nm_keeps_chg {w W W' : World} {p : Nat} (h : Keeps w W) (c : Chg (· = p) W W') (hp : w.heap.size ≤ p) : Keeps w W' := Below.trans h (Chg.below c h.size (fun k hk e => by omega))
theorem keeps_set {w W : World} {p i : Nat} (h : Keeps w W) (hp : w.heap.size ≤ p) (u : Value) : Keeps w (W.setCell ⟨p, i, none⟩ u) := Below.setCell h hp _
/-- two arrays laid one behind the other -/
theorem two_rows (w : World) (a b : List Value) (T U : TypeId) : ∃ p q W, p = w.heap.size ∧ q = w.heap.size + 1 ∧ W = (w.alloc (.cells a.toArray T)).alloc (.cells b.toArray U) ∧ Keeps w W ∧ Row W p 0 a ∧ Row W q 0 b ∧ W.heap.size = w.heap.size + 2 :=
  ⟨_, _, _, rfl, rfl, rfl, nm_keeps_alloc (nm_keeps_alloc (Keeps.refl w) _) _, (Row.new _ _ _ rfl).alloc _, by have := Row.new (w := w.alloc (.cells a.toArray T)) b _ U rfl; rwa [World.size_alloc] at this, by simp⟩
/-- arrays laid one behind the other, whatever else -/
theorem nm_wp_rows3 {P : Program} {c : Code} {Q : Exit → Act → World → Prop} {a : Act} {w : World} {A B C : Array Value} {T U V : TypeId}
    (h : ∀ W, Keeps w W → Row W w.heap.size 0 A.toList → Row W (w.heap.size + 1) 0 B.toList → Row W (w.heap.size + 1 + 1) 0 C.toList → W.heap.size = w.heap.size + 3 → Code.wp P c Q a W) :
    Code.wp P c Q a (((w.alloc (.cells A T)).alloc (.cells B U)).alloc (.cells C V)) := by
  have h0 := Row.new (w := w) A.toList A T (by simp)
  have h1 := Row.new (w := w.alloc (.cells A T)) B.toList B U (by simp)
  have h2 := Row.new (w := (w.alloc (.cells A T)).alloc (.cells B U)) C.toList C V (by simp)
  simp only [World.size_alloc] at h1 h2
  exact h _ (nm_keeps_alloc (nm_keeps_alloc (nm_keeps_alloc (Keeps.refl w) _) _) _) ((h0.alloc _).alloc _) (h1.alloc _) h2 (by simp)
theorem wp_rows4 {P : Program} {c : Code} {Q : Exit → Act → World → Prop} {a : Act} {w : World} {A B C D : Array Value} {T U V X : TypeId}
    (h : ∀ W, Keeps w W → Row W w.heap.size 0 A.toList → Row W (w.heap.size + 1) 0 B.toList → Row W (w.heap.size + 1 + 1) 0 C.toList → Row W (w.heap.size + 1 + 1 + 1) 0 D.toList → W.heap.size = w.heap.size + 4 → Code.wp P c Q a W) :
    Code.wp P c Q a ((((w.alloc (.cells A T)).alloc (.cells B U)).alloc (.cells C V)).alloc (.cells D X)) := by
  have h0 := Row.new (w := w) A.toList A T (by simp)
  have h1 := Row.new (w := w.alloc (.cells A T)) B.toList B U (by simp)
  have h2 := Row.new (w := (w.alloc (.cells A T)).alloc (.cells B U)) C.toList C V (by simp)
  have h3 := Row.new (w := ((w.alloc (.cells A T)).alloc (.cells B U)).alloc (.cells C V)) D.toList D X (by simp)
  simp only [World.size_alloc] at h1 h2 h3
  exact h _ (nm_keeps_alloc (nm_keeps_alloc (nm_keeps_alloc (nm_keeps_alloc (Keeps.refl w) _) _) _) _) (((h0.alloc _).alloc _).alloc _) ((h1.alloc _).alloc _) (h2.alloc _) h3 (by simp)
/-- what is behind place j, added -/
def sumFrom (a b : List Int) (j : Nat) : Int := be (a.drop j) + be (b.drop j)
theorem sumFrom_step {a b : List Int} (hl : a.length = 32) (hl2 : b.length = 32) {j : Nat} (h : j < 32) : sumFrom a b j = (a.getD j 0 + b.getD j 0) * 256 ^ (31 - j) + sumFrom a b (j + 1) := by
  unfold sumFrom
  have e : ∀ {l : List Int}, l.length = 32 → be (l.drop j) = l.getD j 0 * 256 ^ (31 - j) + be (l.drop (j + 1)) := by
    intro l hl
    rw [List.drop_eq_getElem_cons (by omega), show l[j]'(by omega) :: l.drop (j + 1) = [l[j]'(by omega)] ++ l.drop (j + 1) from rfl, be_append]
    simp only [be, List.foldl_cons, List.foldl_nil, List.length_drop, hl, List.getD, List.getElem?_eq_getElem (show j < l.length by omega), Option.getD_some, Int.zero_mul, Int.zero_add, show 32 - (j + 1) = 31 - j by omega]
  rw [e hl, e hl2, Int.add_mul]
  omega
theorem sumFrom_range {a b : List Int} (ha : Bytes a) (hb : Bytes b) (j : Nat) : 0 ≤ sumFrom a b j := by
  have h1 := be_range (l := a.drop j) (fun x h => ha x (List.mem_of_mem_drop h))
  have h2 := be_range (l := b.drop j) (fun x h => hb x (List.mem_of_mem_drop h))
  unfold sumFrom; omega
/-- what is carried into place j - 1 -/
def carry (a b : List Int) (j : Nat) : Int := sumFrom a b j / 256 ^ (32 - j)
theorem carry_le {a b : List Int} (ha : Bytes a) (hb : Bytes b) (hl : a.length = 32) (hl2 : b.length = 32) (j : Nat) : 0 ≤ carry a b j ∧ carry a b j ≤ 1 := by
  have h1 := be_range (l := a.drop j) (fun x h => ha x (List.mem_of_mem_drop h))
  have h2 := be_range (l := b.drop j) (fun x h => hb x (List.mem_of_mem_drop h))
  rw [List.length_drop, hl] at h1
  rw [List.length_drop, hl2] at h2
  have hM : (0 : Int) < 256 ^ (32 - j) := Int.pow_pos (by decide)
  unfold carry sumFrom
  refine ⟨Int.ediv_nonneg (by omega) (by omega), ?_⟩
  have : (be (a.drop j) + be (b.drop j)) / 256 ^ (32 - j) < 2 := Int.ediv_lt_of_lt_mul hM (by omega)
  omega
theorem carry_full {a b : List Int} (hl : a.length = 32) (hl2 : b.length = 32) : carry a b 32 = 0 := by simp [carry, sumFrom, hl, hl2, List.drop_eq_nil_of_le, be]
theorem carry_step {a b : List Int} (hl : a.length = 32) (hl2 : b.length = 32) {j : Nat} (h : j < 32) : a.getD j 0 + b.getD j 0 + carry a b (j + 1) = sumFrom a b j / 256 ^ (31 - j) ∧ (a.getD j 0 + b.getD j 0 + carry a b (j + 1)) / 256 = carry a b j := by
  have e1 : a.getD j 0 + b.getD j 0 + carry a b (j + 1) = sumFrom a b j / 256 ^ (31 - j) := by
    have hM : (256 : Int) ^ (31 - j) ≠ 0 := Int.ne_of_gt (Int.pow_pos (by decide))
    rw [sumFrom_step hl hl2 h, Int.add_comm ((a.getD j 0 + b.getD j 0) * 256 ^ (31 - j)), Int.add_mul_ediv_right _ _ hM, carry, show 32 - (j + 1) = 31 - j by omega, Int.add_comm]
  refine ⟨e1, ?_⟩
  rw [e1, carry, Int.ediv_ediv_of_nonneg (Int.pow_nonneg (by decide)), ← Int.pow_succ, Nat.succ_eq_add_one, show 31 - j + 1 = 32 - j by omega]
theorem sumFrom_digit {a b : List Int} (hl : a.length = 32) (hl2 : b.length = 32) : ∀ j, j ≤ 32 → ∀ i, j ≤ i → i < 32 → sumFrom a b j / 256 ^ (31 - i) % 256 = sumFrom a b i / 256 ^ (31 - i) % 256 := by
  intro j
  suffices H : ∀ k j, j + k = 32 → ∀ i, j ≤ i → i < 32 → sumFrom a b j / 256 ^ (31 - i) % 256 = sumFrom a b i / 256 ^ (31 - i) % 256 from fun h => H (32 - j) j (by omega)
  intro k
  induction k with
  | zero => intro j hj i h1 h2; omega
  | succ k ih =>
    intro j hj i h1 h2
    by_cases e : i = j
    · rw [e]
    · rw [← ih (j + 1) (by omega) i (by omega) h2, sumFrom_step hl hl2 (by omega)]
      have hM : (256 : Int) ^ (31 - i) ≠ 0 := Int.ne_of_gt (Int.pow_pos (by decide))
      have ep : (256 : Int) ^ (31 - j) = (256 ^ (i - j - 1) * 256) * 256 ^ (31 - i) := by
        rw [← Int.pow_succ, ← Int.pow_add]; congr 1; omega
      rw [ep, ← Int.mul_assoc, Int.add_comm, Int.add_mul_ediv_right _ _ hM, ← Int.mul_assoc, Int.add_mul_emod_self_right]
/-- the sum's byte at place j -/
theorem sum_digit {a b : List Int} (hl : a.length = 32) (hl2 : b.length = 32) {j : Nat} (h : j < 32) : (a.getD j 0 + b.getD j 0 + carry a b (j + 1)) % 256 = (toB 32 (be a + be b)).getD j 0 := by
  rw [(carry_step hl hl2 h).1, toB_getD _ _ _ h]
  have := sumFrom_digit hl hl2 0 (by omega) j (by omega) h
  simp only [sumFrom, List.drop_zero] at this
  rw [show 32 - 1 - j = 31 - j by omega, this]
  rfl
/-- a sum, the greatest number where it is beyond -/
def addB (a b : List Int) : List Int := if 0 < (be a + be b) / 256 ^ 32 then List.replicate 32 255 else toB 32 (be a + be b)
theorem addB_length (a b : List Int) : (addB a b).length = 32 := by unfold addB; split <;> simp [toB_length]
theorem addB_bytes (a b : List Int) : Bytes (addB a b) := by
  unfold addB
  split
  · intro x hx
    obtain ⟨_, rfl⟩ := List.mem_replicate.1 hx
    exact ⟨by omega, by omega⟩
  · exact toB_bytes _ _
theorem sz_num : (Tryd.prog.info? 26).map (·.size) = some 32 := by kernel_rfl
/-- so many 255, then a list's rest -/
def over255 (l : List Int) (i : Nat) : List Int := List.replicate i 255 ++ l.drop i
theorem over255_length (l : List Int) (h : l.length = 32) (i : Nat) (hi : i ≤ 32) : (over255 l i).length = 32 := by simp [over255, h]; omega
theorem over255_set (l : List Int) (h : l.length = 32) (i : Nat) (hi : i < 32) : (over255 l i).set i 255 = over255 l (i + 1) := by
  unfold over255
  rw [List.set_append_right _ _ (by simp), List.length_replicate, Nat.sub_self, List.drop_eq_getElem_cons (by omega), List.set_cons_zero, List.replicate_succ', List.append_assoc]
  rfl
end Go.Proofs.YtcodpdpeklammaaDoor
namespace Go.Proofs.YtcodpdpeklammaaDoor
set_option linter.unusedVariables false
set_option linter.unusedSimpArgs false
open Go Go.RowKit

/-- word j, when the first i bytes have come -/
def wcell (l : List Int) (i j : Nat) : Int := be (((l.take i).drop (24 - 8 * j)).take 8)
def wst (l : List Int) (i : Nat) : List Int := [wcell l i 0, wcell l i 1, wcell l i 2, wcell l i 3]
theorem wst_zero (l : List Int) : wst l 0 = [0, 0, 0, 0] := by simp [wst, wcell, be]
theorem wcell_range {l : List Int} (hb : Bytes l) (i j : Nat) : 0 ≤ wcell l i j ∧ wcell l i j < 18446744073709551616 := by
  have h := be_range (l := ((l.take i).drop (24 - 8 * j)).take 8) (fun x h => hb x (List.mem_of_mem_take (List.mem_of_mem_drop (List.mem_of_mem_take h))))
  have hlen : (((l.take i).drop (24 - 8 * j)).take 8).length ≤ 8 := by simp; omega
  refine ⟨h.1, Int.lt_of_lt_of_le h.2 ?_⟩
  have hp : ∀ k : Fin 9, (256 : Int) ^ k.val ≤ 18446744073709551616 := by decide
  exact hp ⟨_, by omega⟩
theorem wcell_step {l : List Int} (hb : Bytes l) (hl : l.length = 32) {i : Nat} (h : i < 32) : wcell l (i + 1) (3 - i / 8) = wcell l i (3 - i / 8) * 256 + l.getD i 0 ∧ wcell l i (3 - i / 8) * 256 < 18446744073709551616 ∧ ∀ j, j < 4 → j ≠ 3 - i / 8 → wcell l (i + 1) j = wcell l i j := by
  have h8 : 24 - 8 * (3 - i / 8) = 8 * (i / 8) := by omega
  have hlen : ((l.take i).drop (8 * (i / 8))).length ≤ 7 := by rw [List.length_drop, List.length_take]; omega
  refine ⟨?_, ?_, fun j hj hne => ?_⟩
  · unfold wcell
    have e : (l.take (i + 1)).drop (8 * (i / 8)) = (l.take i).drop (8 * (i / 8)) ++ [l.getD i 0] := by
      rw [List.take_succ_eq_append_getElem (by omega), List.drop_append_of_le_length (by rw [List.length_take]; omega)]
      simp [List.getD, show i < l.length by omega]
    rw [h8, e]
    generalize (l.take i).drop (8 * (i / 8)) = A at *
    have t1 : (A ++ [l.getD i 0]).take 8 = A ++ [l.getD i 0] := List.take_of_length_le (by rw [List.length_append, List.length_singleton]; omega)
    have t2 : A.take 8 = A := List.take_of_length_le (by omega)
    rw [t1, t2, be_snoc]
  · have hr := be_range (l := ((l.take i).drop (8 * (i / 8))).take 8) (fun x h => hb x (List.mem_of_mem_take (List.mem_of_mem_drop (List.mem_of_mem_take h))))
    have hlen2 : (((l.take i).drop (8 * (i / 8))).take 8).length ≤ 7 := by rw [List.length_take]; omega
    have hp : ∀ k : Fin 8, (256 : Int) ^ k.val ≤ 72057594037927936 := by decide
    unfold wcell
    rw [h8]
    generalize ((l.take i).drop (8 * (i / 8))).take 8 = A at *
    have h3 := Int.lt_of_lt_of_le hr.2 (hp ⟨A.length, by omega⟩)
    omega
  · unfold wcell
    by_cases hc : j < 3 - i / 8
    · rw [List.drop_eq_nil_of_le (by simp; omega), List.drop_eq_nil_of_le (by simp; omega)]
    · have e : ∀ m, 24 - 8 * j + 8 ≤ m → ((l.take m).drop (24 - 8 * j)).take 8 = (l.drop (24 - 8 * j)).take 8 := by
        intro m hm
        rw [List.drop_take, List.take_take, Nat.min_eq_left (by omega)]
      rw [e i (by omega), e (i + 1) (by omega)]
theorem wst_set {l : List Int} (hb : Bytes l) (hl : l.length = 32) {i : Nat} (h : i < 32) : (wst l i).set (3 - i / 8) (wcell l i (3 - i / 8) * 256 + l.getD i 0) = wst l (i + 1) := by
  obtain ⟨h1, _, h3⟩ := wcell_step hb hl h
  have hk : 3 - i / 8 = 0 ∨ 3 - i / 8 = 1 ∨ 3 - i / 8 = 2 ∨ 3 - i / 8 = 3 := by omega
  rw [← h1]
  unfold wst
  rcases hk with hk | hk | hk | hk <;> rw [hk] at h3 ⊢ <;> simp only [List.set_cons_zero, List.set_cons_succ]
  · rw [h3 1 (by omega) (by omega), h3 2 (by omega) (by omega), h3 3 (by omega) (by omega)]
  · rw [h3 0 (by omega) (by omega), h3 2 (by omega) (by omega), h3 3 (by omega) (by omega)]
  · rw [h3 0 (by omega) (by omega), h3 1 (by omega) (by omega), h3 3 (by omega) (by omega)]
  · rw [h3 0 (by omega) (by omega), h3 1 (by omega) (by omega), h3 2 (by omega) (by omega)]
theorem wst_getD (l : List Int) (i k : Nat) (hk : k < 4) : (wst l i).getD k 0 = wcell l i k := by
  have : k = 0 ∨ k = 1 ∨ k = 2 ∨ k = 3 := by omega
  rcases this with rfl | rfl | rfl | rfl <;> rfl
theorem wst_full {l : List Int} (hb : Bytes l) (hl : l.length = 32) : wst l 32 = words (be l) := by
  have key : ∀ j, j ≤ 3 → wcell l 32 j = be l / 18446744073709551616 ^ j % 18446744073709551616 := by
    intro j hj
    have e : l = l.take (24 - 8 * j) ++ ((l.drop (24 - 8 * j)).take 8 ++ l.drop (32 - 8 * j)) := by
      have h1 := List.take_append_drop (24 - 8 * j) l
      have h2 := List.take_append_drop 8 (l.drop (24 - 8 * j))
      rw [List.drop_drop, show 24 - 8 * j + 8 = 32 - 8 * j by omega] at h2
      rw [h2, h1]
    have hmid : (l.drop (24 - 8 * j)).take 8 = ((l.take 32).drop (24 - 8 * j)).take 8 := by rw [List.take_of_length_le (by omega : l.length ≤ 32)]
    have hml : ((l.drop (24 - 8 * j)).take 8).length = 8 := by simp; omega
    have htl : (l.drop (32 - 8 * j)).length = 8 * j := by simp; omega
    have ht := be_range (l := l.drop (32 - 8 * j)) (fun x h => hb x (List.mem_of_mem_drop h))
    have hm := be_range (l := (l.drop (24 - 8 * j)).take 8) (fun x h => hb x (List.mem_of_mem_drop (List.mem_of_mem_take h)))
    rw [htl] at ht
    rw [hml] at hm
    have hM : (18446744073709551616 : Int) ^ j = 256 ^ (8 * j) := by rw [Int.pow_mul]; rfl
    rw [wcell, ← hmid, hM]
    conv => rhs; rw [e]
    rw [be_append, be_append, List.length_append, hml, htl]
    generalize be ((l.drop (24 - 8 * j)).take 8) = B at *
    generalize be (l.drop (32 - 8 * j)) = C at *
    generalize be (l.take (24 - 8 * j)) = A at *
    have hp : (0 : Int) < 256 ^ (8 * j) := Int.pow_pos (by decide)
    rw [Int.pow_add, ← Int.mul_assoc, ← Int.add_assoc, ← Int.add_mul, Int.add_comm _ C, Int.add_mul_ediv_right _ _ (Int.ne_of_gt hp), Int.ediv_eq_zero_of_lt ht.1 ht.2, Int.zero_add]
    omega
  unfold wst words
  rw [key 0 (by omega), key 1 (by omega), key 2 (by omega), key 3 (by omega)]
  simp only [Int.pow_zero, Int.ediv_one]
  rfl
theorem w64_wraps (n : Int) (h₀ : 0 ≤ n) (h₁ : n < 2 ^ 64) : IntKind.u64.wrap n = n := by rw [IntKind.wrap_u64]; omega
theorem u64_join (i : Nat) (x y : Int) (hx₀ : 0 ≤ x) (hx : x % 2 ^ i = 0) (hx₁ : x < 2 ^ 64) (hy₀ : 0 ≤ y) (hy : y < 2 ^ i) (hy₁ : y < 2 ^ 64) : bits .or .u64 x y = x + y :=
  bits_join .u64 64 (by decide) w64_wraps i x y hx₀ hx hx₁ hy₀ hy hy₁
theorem sz_u8 : (Tryd.prog.info? 5).map (·.size) = some 1 := by kernel_rfl
theorem nm_sz_words : (Tryd.prog.info? 166).map (·.size) = some 4 := by kernel_rfl
theorem sz_number : (Tryd.prog.info? 45).map (·.size) = some 32 := by kernel_rfl
end Go.Proofs.YtcodpdpeklammaaDoor
namespace Go.Proofs.YtcodpdpeklammaaDoor
set_option linter.unusedVariables false
set_option linter.unusedSimpArgs false
open Go Go.RowKit
variable {B : Nat}

theorem leV_range : ∀ {l : List Int}, Bytes l → 0 ≤ leV l ∧ leV l < 256 ^ l.length
  | [], _ => by simp [leV]
  | b :: r, h => by
    have h1 := h b (by simp)
    have h2 := leV_range (l := r) (fun x hx => h x (by simp [hx]))
    obtain ⟨h3, h4⟩ := h1
    obtain ⟨h5, h6⟩ := h2
    simp only [leV, List.length_cons, Int.pow_succ]
    omega
theorem leV_take (L : List Int) (i : Nat) (h : i < L.length) : leV (L.take (i + 1)) = leV (L.take i) + 256 ^ i * L.getD i 0 := by
  have e : L.take (i + 1) = L.take i ++ [L.getD i 0] := by rw [List.take_add_one]; simp [List.getD, h]
  rw [e, leV_app]
  have : (L.take i).length = i := by simp; omega
  rw [this]
  simp [leV]
theorem low_or (k : Nat) (x c : Int) (hx0 : 0 ≤ x) (hx1 : x < 2 ^ k) (hc0 : 0 ≤ c) (hc1 : c * 2 ^ k < 2 ^ 64) (hk : x < 2 ^ 64) : bits .or .u64 x (c * 2 ^ k) = x + c * 2 ^ k := by
  have hcm : bits .or .u64 x (c * 2 ^ k) = bits .or .u64 (c * 2 ^ k) x := by simp only [bits, BitVec.or_comm]
  rw [hcm, u64_join k (c * 2 ^ k) x (Int.mul_nonneg hc0 (Int.pow_nonneg (by decide))) (Int.mul_emod_left _ _) hc1 hx0 hx1 hk, Int.add_comm]
theorem or_at (i : Nat) (hi : i < 8) (X c : Int) (hx0 : 0 ≤ X) (hx1 : X < 256 ^ i) (hc0 : 0 ≤ c) (hc1 : c < 256) : Value.int .u64 (bits .or .u64 X (c * 256 ^ i)) = Value.int .u64 (X + 256 ^ i * c) := by
  have e : (256 : Int) ^ i = 2 ^ (8 * i) := by rw [Int.pow_mul]; rfl
  have hi8 : i = 0 ∨ i = 1 ∨ i = 2 ∨ i = 3 ∨ i = 4 ∨ i = 5 ∨ i = 6 ∨ i = 7 := by omega
  rw [e] at hx1 ⊢
  rw [low_or (8 * i) X c hx0 hx1 hc0 ?_ ?_, Int.mul_comm c]
  · rcases hi8 with rfl | rfl | rfl | rfl | rfl | rfl | rfl | rfl <;> omega
  · rcases hi8 with rfl | rfl | rfl | rfl | rfl | rfl | rfl | rfl <;> omega
theorem take_no (g : Nat) (v : Value) (e : Int) (l : List Int) (n : Nat) (hn : n ≤ 140737488355328) (hlt : l.length < n) (w : World) (h : RdAt B w g v e l) :
    Calls Tryd.prog 42 #[.pointer (some ⟨g, 0, none⟩), .int .i64 n] w fun r w' => r = .panicked (stopC 4) ∧ w' = w :=
  (take_any g v e l n hn w h).mono (fun r w' h => by
    rcases h with ⟨_, h1, h2⟩ | ⟨h, _⟩
    · exact ⟨h1, h2⟩
    · omega)
theorem take_ok (g : Nat) (v : Value) (e : Int) (l : List Int) (n : Nat) (hn : n ≤ 140737488355328) (hle : n ≤ l.length) (w : World) (h : RdAt B w g v e l) :
    Calls Tryd.prog 42 #[.pointer (some ⟨g, 0, none⟩), .int .i64 n] w fun r w' => ∃ s v', r = .returned s ∧ SrcB B w' g s (l.take n) ∧ RdAt B w' g v' e (l.drop n) ∧ Chg (· = g) w w' :=
  (take_any g v e l n hn w h).mono (fun r w' h => by
    rcases h with ⟨h, _⟩ | ⟨_, h⟩
    · omega
    · exact h)
theorem SrcB.any {W : World} {g : Nat} {v : Value} {l : List Int} (h : SrcB B W g v l) : ∃ a cap, v = .slice a l.length cap ∧ l.length ≤ cap ∧ cap ≤ maxLen ∧ ∀ i, i < l.length → ∃ b off, a = some ⟨b, off, none⟩ ∧ W.cell? ⟨b, off + i, none⟩ = some (.int .u8 (l.getD i 0)) := by
  rcases h with ⟨rfl, rfl⟩ | ⟨b, off, cap, rfl, h2, h3, h4, h5, h6⟩
  · exact ⟨none, 0, rfl, Nat.le_refl _, Nat.zero_le _, fun i hi => by simp at hi⟩
  · exact ⟨_, cap, rfl, h2, h3, fun i hi => ⟨b, off, rfl, h6.int i hi⟩⟩
set_option maxRecDepth 100000 in
theorem number_no (g : Nat) (v : Value) (e : Int) (l : List Int) (n : Nat) (hn : n ≤ 8) (hlt : l.length < n) (w : World) (h : RdAt B w g v e l) :
    Calls Tryd.prog 60 #[.pointer (some ⟨g, 0, none⟩), .int .i64 n] w fun r w' => r = .panicked (stopC 4) ∧ w' = w := by
  have HT := Lib.hid (take_no g v e l n (by omega) hlt w h)
  go_enter Tryd.func60, Tryd.ntmps60
  go_wp2_with (go_at_call 42; refine HT.out.mono ?_; rintro r W1 ⟨rfl, rfl⟩)
  exact ⟨rfl, rfl, rfl⟩
set_option maxRecDepth 100000 in
theorem number_ok (g : Nat) (v : Value) (e : Int) (l : List Int) (n : Nat) (hn : n ≤ 8) (hle : n ≤ l.length) (w : World) (h : RdAt B w g v e l) :
    Calls Tryd.prog 60 #[.pointer (some ⟨g, 0, none⟩), .int .i64 n] w fun r w' => ∃ v', r = .returned (.int .u64 (leV (l.take n))) ∧ RdAt B w' g v' e (l.drop n) ∧ Chg (· = g) w w' := by
  have HT := Lib.hid (take_ok g v e l n (by omega) hle w h)
  have hby : Bytes (l.take n) := h.bytes.take' n
  have hll : (l.take n).length = n := by simp; omega
  clear h
  go_enter Tryd.func60, Tryd.ntmps60
  go_upto_region 3 with (go_at_call 42; refine HT.out.mono ?_; rintro r W1 ⟨s, v', rfl, hs, hr, hc⟩; obtain ⟨sa, sc, rfl, h1, h2, h3⟩ := hs.any; have HR := Lib.hid hr; have HC := Lib.hid hc; have HCE := Lib.hid h3; have HBY := Lib.hid hby; have HLL := Lib.hid hll; clear hs hr hc h3)
  generalize hTL : l.take n = L at *
  have HTL := Lib.hid hTL
  clear hTL
  go_loopw [5, 12] (fun x c wr => ∃ i : Nat, i ≤ n ∧ c = .int .i64 i ∧ x = .int .u64 (leV (L.take i)) ∧ wr = W1) (fun _ c _ => (n - intOf c).toNat)
  case atStart => exact ⟨0, by omega, rfl, rfl, rfl⟩
  case round =>
    obtain ⟨i, hi, rfl, rfl, rfl⟩ := hrel
    by_cases hlt : i < n
    · obtain ⟨b, off, rfl, hcb⟩ := HCE.out i (by rw [HLL.out]; exact hlt)
      have hlv := leV_take L i (by rw [HLL.out]; exact hlt)
      have hrg := leV_range (l := L.take i) (HBY.out.take' i)
      rw [show (L.take i).length = i by rw [List.length_take, HLL.out]; omega] at hrg
      obtain ⟨hx0, hx1⟩ := hrg
      obtain ⟨hc0, hc1⟩ := HBY.out.getD i
      have HLV := Lib.hid hlv
      clear hlv
      generalize L.getD i 0 = c at *
      generalize leV (L.take i) = X at *
      have hi8 : i = 0 ∨ i = 1 ∨ i = 2 ∨ i = 3 ∨ i = 4 ∨ i = 5 ∨ i = 6 ∨ i = 7 := by omega
      rcases hi8 with rfl | rfl | rfl | rfl | rfl | rfl | rfl | rfl
      all_goals
        have hor := or_at _ (by omega) X c hx0 hx1 hc0 hc1
        rw [← HLV.out] at hor
        have HOR := Lib.hid hor
        clear hor hx0 hx1
        try rw [Nat.add_zero] at hcb
        go_wp2
        refine ⟨⟨_, hlt, rfl, ?_, trivial⟩, by simp [intOf]; omega⟩
        first
          | exact HOR.out
          | (have := HOR.out; simpa using this)
    · obtain rfl : i = n := by omega
      have htk : L.take i = L := List.take_of_length_le (by rw [HLL.out]; exact Nat.le_refl _)
      rw [htk]
      go_wp2
      go_ret
      exact ⟨v', by first | rfl | (rw [HTL.out]; rfl), HR.out, HC.out⟩
end Go.Proofs.YtcodpdpeklammaaDoor
