/- Numbers of 256 bits: the reference's Less and Sum. -/
import Derived.Test.YthfepfpmkckdnaaDoorNumSpec
import Derived.Laws.CopyOwn
import Derived.Deep.Cut
import Derived.Deep.LoopGhost
import Derived.StillTail
import Derived.Deep.RegionHeld3
import Derived.Lib.QuietBelow
import Derived.Stop.BytesEq
namespace Go.Proofs.YthfepfpmkckdnaaDoor
set_option linter.unusedVariables false
set_option linter.unusedSimpArgs false
open Go Go.RowKit

theorem nm_keeps_alloc {w W : World} (h : Keeps w W) (o : Obj) : Keeps w (W.alloc o) := Below.alloc h h.size o
theorem nm_keeps_chg {w W W' : World} {p : Nat} (h : Keeps w W) (c : Chg (· = p) W W') (hp : w.heap.size ≤ p) : Keeps w W' := Below.trans h (Chg.below c h.size (fun k hk e => by omega))
theorem keeps_set {w W : World} {p i : Nat} (h : Keeps w W) (hp : w.heap.size ≤ p) (u : Value) : Keeps w (W.setCell ⟨p, i, none⟩ u) := Below.setCell h hp _
/-- two arrays laid one behind the other -/
theorem two_rows (w : World) (a b : List Value) (T U : TypeId) : ∃ p q W, p = w.heap.size ∧ q = w.heap.size + 1 ∧ W = (w.alloc (.cells a.toArray T)).alloc (.cells b.toArray U) ∧ Keeps w W ∧ Row W p 0 a ∧ Row W q 0 b ∧ W.heap.size = w.heap.size + 2 :=
  ⟨_, _, _, rfl, rfl, rfl, nm_keeps_alloc (nm_keeps_alloc (Keeps.refl w) _) _, (Row.new _ _ _ rfl).alloc _, by have := Row.new (w := w.alloc (.cells a.toArray T)) b _ U rfl; rwa [World.size_alloc] at this, by simp⟩
/-- arrays laid one behind the other, whatever else -/
theorem wp_rows3 {P : Program} {c : Code} {Q : Exit → Act → World → Prop} {a : Act} {w : World} {A B C : Array Value} {T U V : TypeId}
    (h : ∀ W, Keeps w W → Row W w.heap.size 0 A.toList → Row W (w.heap.size + 1) 0 B.toList → Row W (w.heap.size + 1 + 1) 0 C.toList → W.heap.size = w.heap.size + 3 → Code.wp P c Q a W) :
    Code.wp P c Q a (((w.alloc (.cells A T)).alloc (.cells B U)).alloc (.cells C V)) := by
  have h0 := Row.new (w := w) A.toList A T (by simp)
  have h1 := Row.new (w := w.alloc (.cells A T)) B.toList B U (by simp)
  have h2 := Row.new (w := (w.alloc (.cells A T)).alloc (.cells B U)) C.toList C V (by simp)
  simp only [World.size_alloc] at h1 h2
  exact h _ (nm_keeps_alloc (nm_keeps_alloc (nm_keeps_alloc (Keeps.refl w) _) _) _) ((h0.alloc _).alloc _) (h1.alloc _) h2 (by simp)
theorem wp_rows4 {P : Program} {c : Code} {Q : Exit → Act → World → Prop} {a : Act} {w : World} {A B C D : Array Value} {T U V X : TypeId}
    (h : ∀ W, Keeps w W → Row W w.heap.size 0 A.toList → Row W (w.heap.size + 1) 0 B.toList → Row W (w.heap.size + 1 + 1) 0 C.toList → Row W (w.heap.size + 1 + 1 + 1) 0 D.toList → W.heap.size = w.heap.size + 4 → Code.wp P c Q a W) :
    Code.wp P c Q a ((((w.alloc (.cells A T)).alloc (.cells B U)).alloc (.cells C V)).alloc (.cells D X)) := by
  have h0 := Row.new (w := w) A.toList A T (by simp)
  have h1 := Row.new (w := w.alloc (.cells A T)) B.toList B U (by simp)
  have h2 := Row.new (w := (w.alloc (.cells A T)).alloc (.cells B U)) C.toList C V (by simp)
  have h3 := Row.new (w := ((w.alloc (.cells A T)).alloc (.cells B U)).alloc (.cells C V)) D.toList D X (by simp)
  simp only [World.size_alloc] at h1 h2 h3
  exact h _ (nm_keeps_alloc (nm_keeps_alloc (nm_keeps_alloc (nm_keeps_alloc (Keeps.refl w) _) _) _) _) (((h0.alloc _).alloc _).alloc _) ((h1.alloc _).alloc _) (h2.alloc _) h3 (by simp)
/-- what is behind place j, added -/
def sumFrom (a b : List Int) (j : Nat) : Int := be (a.drop j) + be (b.drop j)
theorem sumFrom_step {a b : List Int} (hl : a.length = 32) (hl2 : b.length = 32) {j : Nat} (h : j < 32) : sumFrom a b j = (a.getD j 0 + b.getD j 0) * 256 ^ (31 - j) + sumFrom a b (j + 1) := by
  unfold sumFrom
  have e : ∀ {l : List Int}, l.length = 32 → be (l.drop j) = l.getD j 0 * 256 ^ (31 - j) + be (l.drop (j + 1)) := by
    intro l hl
    rw [List.drop_eq_getElem_cons (by omega), show l[j]'(by omega) :: l.drop (j + 1) = [l[j]'(by omega)] ++ l.drop (j + 1) from rfl, be_append]
    simp only [be, List.foldl_cons, List.foldl_nil, List.length_drop, hl, List.getD, List.getElem?_eq_getElem (show j < l.length by omega), Option.getD_some, Int.zero_mul, Int.zero_add, show 32 - (j + 1) = 31 - j by omega]
  rw [e hl, e hl2, Int.add_mul]
  omega
theorem sumFrom_range {a b : List Int} (ha : Bytes a) (hb : Bytes b) (j : Nat) : 0 ≤ sumFrom a b j := by
  have h1 := be_range (l := a.drop j) (fun x h => ha x (List.mem_of_mem_drop h))
  have h2 := be_range (l := b.drop j) (fun x h => hb x (List.mem_of_mem_drop h))
  unfold sumFrom; omega
/-- what is carried into place j - 1 -/
def carry (a b : List Int) (j : Nat) : Int := sumFrom a b j / 256 ^ (32 - j)
theorem carry_le {a b : List Int} (ha : Bytes a) (hb : Bytes b) (hl : a.length = 32) (hl2 : b.length = 32) (j : Nat) : 0 ≤ carry a b j ∧ carry a b j ≤ 1 := by
  have h1 := be_range (l := a.drop j) (fun x h => ha x (List.mem_of_mem_drop h))
  have h2 := be_range (l := b.drop j) (fun x h => hb x (List.mem_of_mem_drop h))
  rw [List.length_drop, hl] at h1
  rw [List.length_drop, hl2] at h2
  have hM : (0 : Int) < 256 ^ (32 - j) := Int.pow_pos (by decide)
  unfold carry sumFrom
  refine ⟨Int.ediv_nonneg (by omega) (by omega), ?_⟩
  have : (be (a.drop j) + be (b.drop j)) / 256 ^ (32 - j) < 2 := Int.ediv_lt_of_lt_mul hM (by omega)
  omega
theorem carry_full {a b : List Int} (hl : a.length = 32) (hl2 : b.length = 32) : carry a b 32 = 0 := by simp [carry, sumFrom, hl, hl2, List.drop_eq_nil_of_le, be]
theorem carry_step {a b : List Int} (hl : a.length = 32) (hl2 : b.length = 32) {j : Nat} (h : j < 32) : a.getD j 0 + b.getD j 0 + carry a b (j + 1) = sumFrom a b j / 256 ^ (31 - j) ∧ (a.getD j 0 + b.getD j 0 + carry a b (j + 1)) / 256 = carry a b j := by
  have e1 : a.getD j 0 + b.getD j 0 + carry a b (j + 1) = sumFrom a b j / 256 ^ (31 - j) := by
    have hM : (256 : Int) ^ (31 - j) ≠ 0 := Int.ne_of_gt (Int.pow_pos (by decide))
    rw [sumFrom_step hl hl2 h, Int.add_comm ((a.getD j 0 + b.getD j 0) * 256 ^ (31 - j)), Int.add_mul_ediv_right _ _ hM, carry, show 32 - (j + 1) = 31 - j by omega, Int.add_comm]
  refine ⟨e1, ?_⟩
  rw [e1, carry, Int.ediv_ediv_of_nonneg (Int.pow_nonneg (by decide)), ← Int.pow_succ, Nat.succ_eq_add_one, show 31 - j + 1 = 32 - j by omega]
theorem sumFrom_digit {a b : List Int} (hl : a.length = 32) (hl2 : b.length = 32) : ∀ j, j ≤ 32 → ∀ i, j ≤ i → i < 32 → sumFrom a b j / 256 ^ (31 - i) % 256 = sumFrom a b i / 256 ^ (31 - i) % 256 := by
  intro j
  suffices H : ∀ k j, j + k = 32 → ∀ i, j ≤ i → i < 32 → sumFrom a b j / 256 ^ (31 - i) % 256 = sumFrom a b i / 256 ^ (31 - i) % 256 from fun h => H (32 - j) j (by omega)
  intro k
  induction k with
  | zero => intro j hj i h1 h2; omega
  | succ k ih =>
    intro j hj i h1 h2
    by_cases e : i = j
    · rw [e]
    · rw [← ih (j + 1) (by omega) i (by omega) h2, sumFrom_step hl hl2 (by omega)]
      have hM : (256 : Int) ^ (31 - i) ≠ 0 := Int.ne_of_gt (Int.pow_pos (by decide))
      have ep : (256 : Int) ^ (31 - j) = (256 ^ (i - j - 1) * 256) * 256 ^ (31 - i) := by
        rw [← Int.pow_succ, ← Int.pow_add]; congr 1; omega
      rw [ep, ← Int.mul_assoc, Int.add_comm, Int.add_mul_ediv_right _ _ hM, ← Int.mul_assoc, Int.add_mul_emod_self_right]
/-- the sum's byte at place j -/
theorem sum_digit {a b : List Int} (hl : a.length = 32) (hl2 : b.length = 32) {j : Nat} (h : j < 32) : (a.getD j 0 + b.getD j 0 + carry a b (j + 1)) % 256 = (toB 32 (be a + be b)).getD j 0 := by
  rw [(carry_step hl hl2 h).1, toB_getD _ _ _ h]
  have := sumFrom_digit hl hl2 0 (by omega) j (by omega) h
  simp only [sumFrom, List.drop_zero] at this
  rw [show 32 - 1 - j = 31 - j by omega, this]
  rfl
/-- a sum, the greatest number where it is beyond -/
def addB (a b : List Int) : List Int := if 0 < (be a + be b) / 256 ^ 32 then List.replicate 32 255 else toB 32 (be a + be b)
theorem addB_length (a b : List Int) : (addB a b).length = 32 := by unfold addB; split <;> simp [toB_length]
theorem addB_bytes (a b : List Int) : Bytes (addB a b) := by
  unfold addB
  split
  · intro x hx
    obtain ⟨_, rfl⟩ := List.mem_replicate.1 hx
    exact ⟨by omega, by omega⟩
  · exact toB_bytes _ _
theorem sz_num : (Tryd.prog.info? 28).map (·.size) = some 32 := by kernel_rfl
/-- so many 255, then a list's rest -/
def over255 (l : List Int) (i : Nat) : List Int := List.replicate i 255 ++ l.drop i
theorem over255_length (l : List Int) (h : l.length = 32) (i : Nat) (hi : i ≤ 32) : (over255 l i).length = 32 := by simp [over255, h]; omega
theorem over255_set (l : List Int) (h : l.length = 32) (i : Nat) (hi : i < 32) : (over255 l i).set i 255 = over255 l (i + 1) := by
  unfold over255
  rw [List.set_append_right _ _ (by simp), List.length_replicate, Nat.sub_self, List.drop_eq_getElem_cons (by omega), List.set_cons_zero, List.replicate_succ', List.append_assoc]
  rfl
end Go.Proofs.YthfepfpmkckdnaaDoor
