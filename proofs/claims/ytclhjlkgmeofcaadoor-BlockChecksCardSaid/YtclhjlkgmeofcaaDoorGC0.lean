/- Numbers of 256 bits: the reference's Less and Sum. | Numbers of 256 bits: block's words, their sum, and back. | Numbers of 256 bits: block's words as bytes again. | block's words: added, taken away. | block.Add: the sum of two numbers, the greatest one if it is beyond. | bytes.Compare on two rows of bytes; block.Compare: which of two numbers is less. -/
import Derived.Test.YtclhjlkgmeofcaaDoorGB8
import Derived.Laws.CopyOwn
import Derived.Deep.Cut
import Derived.Deep.LoopGhost
import Derived.StillTail
import Derived.Deep.RegionHeld3
import Derived.Lib.QuietBelow
import Derived.Stop.BytesEq
import Derived.Laws.Externs
import Derived.Test.YtclhjlkgmeofcaaDoorGB9
import Derived.Test.YtclhjlkgmeofcaaDoorGA9
import Derived.BigRegion
import Derived.Deep.DeepCutAuto
import Derived.Lib.BytesEntry
namespace Go.Proofs.YtclhjlkgmeofcaaDoor
set_option linter.unusedVariables false
set_option linter.unusedSimpArgs false
open Go Go.RowKit

theorem nm_keeps_alloc {w W : World} (h : Keeps w W) (o : Obj) : Keeps w (W.alloc o) := Below.alloc h h.size o
theorem nm_keeps_chg {w W W' : World} {p : Nat} (h : Keeps w W) (c : Chg (· = p) W W') (hp : w.heap.size ≤ p) : Keeps w W' := Below.trans h (Chg.below c h.size (fun k hk e => by omega))
theorem keeps_set {w W : World} {p i : Nat} (h : Keeps w W) (hp : w.heap.size ≤ p) (u : Value) : Keeps w (W.setCell ⟨p, i, none⟩ u) := Below.setCell h hp _
/-- two arrays laid one behind the other -/
theorem two_rows (w : World) (a b : List Value) (T U : TypeId) : ∃ p q W, p = w.heap.size ∧ q = w.heap.size + 1 ∧ W = (w.alloc (.cells a.toArray T)).alloc (.cells b.toArray U) ∧ Keeps w W ∧ Row W p 0 a ∧ Row W q 0 b ∧ W.heap.size = w.heap.size + 2 :=
  ⟨_, _, _, rfl, rfl, rfl, nm_keeps_alloc (nm_keeps_alloc (Keeps.refl w) _) _, (Row.new _ _ _ rfl).alloc _, by have := Row.new (w := w.alloc (.cells a.toArray T)) b _ U rfl; rwa [World.size_alloc] at this, by simp⟩
/-- arrays laid one behind the other, whatever else -/
theorem nm_wp_rows3 {P : Program} {c : Code} {Q : Exit → Act → World → Prop} {a : Act} {w : World} {A B C : Array Value} {T U V : TypeId}
    (h : ∀ W, Keeps w W → Row W w.heap.size 0 A.toList → Row W (w.heap.size + 1) 0 B.toList → Row W (w.heap.size + 1 + 1) 0 C.toList → W.heap.size = w.heap.size + 3 → Code.wp P c Q a W) :
    Code.wp P c Q a (((w.alloc (.cells A T)).alloc (.cells B U)).alloc (.cells C V)) := by
  have h0 := Row.new (w := w) A.toList A T (by simp)
  have h1 := Row.new (w := w.alloc (.cells A T)) B.toList B U (by simp)
  have h2 := Row.new (w := (w.alloc (.cells A T)).alloc (.cells B U)) C.toList C V (by simp)
  simp only [World.size_alloc] at h1 h2
  exact h _ (nm_keeps_alloc (nm_keeps_alloc (nm_keeps_alloc (Keeps.refl w) _) _) _) ((h0.alloc _).alloc _) (h1.alloc _) h2 (by simp)
theorem wp_rows4 {P : Program} {c : Code} {Q : Exit → Act → World → Prop} {a : Act} {w : World} {A B C D : Array Value} {T U V X : TypeId}
    (h : ∀ W, Keeps w W → Row W w.heap.size 0 A.toList → Row W (w.heap.size + 1) 0 B.toList → Row W (w.heap.size + 1 + 1) 0 C.toList → Row W (w.heap.size + 1 + 1 + 1) 0 D.toList → W.heap.size = w.heap.size + 4 → Code.wp P c Q a W) :
    Code.wp P c Q a ((((w.alloc (.cells A T)).alloc (.cells B U)).alloc (.cells C V)).alloc (.cells D X)) := by
  have h0 := Row.new (w := w) A.toList A T (by simp)
  have h1 := Row.new (w := w.alloc (.cells A T)) B.toList B U (by simp)
  have h2 := Row.new (w := (w.alloc (.cells A T)).alloc (.cells B U)) C.toList C V (by simp)
  have h3 := Row.new (w := ((w.alloc (.cells A T)).alloc (.cells B U)).alloc (.cells C V)) D.toList D X (by simp)
  simp only [World.size_alloc] at h1 h2 h3
  exact h _ (nm_keeps_alloc (nm_keeps_alloc (nm_keeps_alloc (nm_keeps_alloc (Keeps.refl w) _) _) _) _) (((h0.alloc _).alloc _).alloc _) ((h1.alloc _).alloc _) (h2.alloc _) h3 (by simp)
/-- what is behind place j, added -/
def sumFrom (a b : List Int) (j : Nat) : Int := be (a.drop j) + be (b.drop j)
theorem sumFrom_step {a b : List Int} (hl : a.length = 32) (hl2 : b.length = 32) {j : Nat} (h : j < 32) : sumFrom a b j = (a.getD j 0 + b.getD j 0) * 256 ^ (31 - j) + sumFrom a b (j + 1) := by
  unfold sumFrom
  have e : ∀ {l : List Int}, l.length = 32 → be (l.drop j) = l.getD j 0 * 256 ^ (31 - j) + be (l.drop (j + 1)) := by
    intro l hl
    rw [List.drop_eq_getElem_cons (by omega), show l[j]'(by omega) :: l.drop (j + 1) = [l[j]'(by omega)] ++ l.drop (j + 1) from rfl, be_append]
    simp only [be, List.foldl_cons, List.foldl_nil, List.length_drop, hl, List.getD, List.getElem?_eq_getElem (show j < l.length by omega), Option.getD_some, Int.zero_mul, Int.zero_add, show 32 - (j + 1) = 31 - j by omega]
  rw [e hl, e hl2, Int.add_mul]
  omega
theorem sumFrom_range {a b : List Int} (ha : Bytes a) (hb : Bytes b) (j : Nat) : 0 ≤ sumFrom a b j := by
  have h1 := be_range (l := a.drop j) (fun x h => ha x (List.mem_of_mem_drop h))
  have h2 := be_range (l := b.drop j) (fun x h => hb x (List.mem_of_mem_drop h))
  unfold sumFrom; omega
/-- what is carried into place j - 1 -/
def carry (a b : List Int) (j : Nat) : Int := sumFrom a b j / 256 ^ (32 - j)
theorem carry_le {a b : List Int} (ha : Bytes a) (hb : Bytes b) (hl : a.length = 32) (hl2 : b.length = 32) (j : Nat) : 0 ≤ carry a b j ∧ carry a b j ≤ 1 := by
  have h1 := be_range (l := a.drop j) (fun x h => ha x (List.mem_of_mem_drop h))
  have h2 := be_range (l := b.drop j) (fun x h => hb x (List.mem_of_mem_drop h))
  rw [List.length_drop, hl] at h1
  rw [List.length_drop, hl2] at h2
  have hM : (0 : Int) < 256 ^ (32 - j) := Int.pow_pos (by decide)
  unfold carry sumFrom
  refine ⟨Int.ediv_nonneg (by omega) (by omega), ?_⟩
  have : (be (a.drop j) + be (b.drop j)) / 256 ^ (32 - j) < 2 := Int.ediv_lt_of_lt_mul hM (by omega)
  omega
theorem carry_full {a b : List Int} (hl : a.length = 32) (hl2 : b.length = 32) : carry a b 32 = 0 := by simp [carry, sumFrom, hl, hl2, List.drop_eq_nil_of_le, be]
theorem carry_step {a b : List Int} (hl : a.length = 32) (hl2 : b.length = 32) {j : Nat} (h : j < 32) : a.getD j 0 + b.getD j 0 + carry a b (j + 1) = sumFrom a b j / 256 ^ (31 - j) ∧ (a.getD j 0 + b.getD j 0 + carry a b (j + 1)) / 256 = carry a b j := by
  have e1 : a.getD j 0 + b.getD j 0 + carry a b (j + 1) = sumFrom a b j / 256 ^ (31 - j) := by
    have hM : (256 : Int) ^ (31 - j) ≠ 0 := Int.ne_of_gt (Int.pow_pos (by decide))
    rw [sumFrom_step hl hl2 h, Int.add_comm ((a.getD j 0 + b.getD j 0) * 256 ^ (31 - j)), Int.add_mul_ediv_right _ _ hM, carry, show 32 - (j + 1) = 31 - j by omega, Int.add_comm]
  refine ⟨e1, ?_⟩
  rw [e1, carry, Int.ediv_ediv_of_nonneg (Int.pow_nonneg (by decide)), ← Int.pow_succ, Nat.succ_eq_add_one, show 31 - j + 1 = 32 - j by omega]
theorem sumFrom_digit {a b : List Int} (hl : a.length = 32) (hl2 : b.length = 32) : ∀ j, j ≤ 32 → ∀ i, j ≤ i → i < 32 → sumFrom a b j / 256 ^ (31 - i) % 256 = sumFrom a b i / 256 ^ (31 - i) % 256 := by
  intro j
  suffices H : ∀ k j, j + k = 32 → ∀ i, j ≤ i → i < 32 → sumFrom a b j / 256 ^ (31 - i) % 256 = sumFrom a b i / 256 ^ (31 - i) % 256 from fun h => H (32 - j) j (by omega)
  intro k
  induction k with
  | zero => intro j hj i h1 h2; omega
  | succ k ih =>
    intro j hj i h1 h2
    by_cases e : i = j
    · rw [e]
    · rw [← ih (j + 1) (by omega) i (by omega) h2, sumFrom_step hl hl2 (by omega)]
      have hM : (256 : Int) ^ (31 - i) ≠ 0 := Int.ne_of_gt (Int.pow_pos (by decide))
      have ep : (256 : Int) ^ (31 - j) = (256 ^ (i - j - 1) * 256) * 256 ^ (31 - i) := by
        rw [← Int.pow_succ, ← Int.pow_add]; congr 1; omega
      rw [ep, ← Int.mul_assoc, Int.add_comm, Int.add_mul_ediv_right _ _ hM, ← Int.mul_assoc, Int.add_mul_emod_self_right]
/-- the sum's byte at place j -/
theorem sum_digit {a b : List Int} (hl : a.length = 32) (hl2 : b.length = 32) {j : Nat} (h : j < 32) : (a.getD j 0 + b.getD j 0 + carry a b (j + 1)) % 256 = (toB 32 (be a + be b)).getD j 0 := by
  rw [(carry_step hl hl2 h).1, toB_getD _ _ _ h]
  have := sumFrom_digit hl hl2 0 (by omega) j (by omega) h
  simp only [sumFrom, List.drop_zero] at this
  rw [show 32 - 1 - j = 31 - j by omega, this]
  rfl
/-- a sum, the greatest number where it is beyond -/
def addB (a b : List Int) : List Int := if 0 < (be a + be b) / 256 ^ 32 then List.replicate 32 255 else toB 32 (be a + be b)
theorem addB_length (a b : List Int) : (addB a b).length = 32 := by unfold addB; split <;> simp [toB_length]
theorem addB_bytes (a b : List Int) : Bytes (addB a b) := by
  unfold addB
  split
  · intro x hx
    obtain ⟨_, rfl⟩ := List.mem_replicate.1 hx
    exact ⟨by omega, by omega⟩
  · exact toB_bytes _ _
theorem sz_num : (Tryd.prog.info? 23).map (·.size) = some 32 := by kernel_rfl
/-- so many 255, then a list's rest -/
def over255 (l : List Int) (i : Nat) : List Int := List.replicate i 255 ++ l.drop i
theorem over255_length (l : List Int) (h : l.length = 32) (i : Nat) (hi : i ≤ 32) : (over255 l i).length = 32 := by simp [over255, h]; omega
theorem over255_set (l : List Int) (h : l.length = 32) (i : Nat) (hi : i < 32) : (over255 l i).set i 255 = over255 l (i + 1) := by
  unfold over255
  rw [List.set_append_right _ _ (by simp), List.length_replicate, Nat.sub_self, List.drop_eq_getElem_cons (by omega), List.set_cons_zero, List.replicate_succ', List.append_assoc]
  rfl
set_option maxRecDepth 100000 in
theorem less_any (a b : List Int) (ha : Bytes a) (hb : Bytes b) (hla : a.length = 32) (hlb : b.length = 32) (w : World) :
    Calls Tryd.prog 37 #[.agg (a.map (Value.int .u8)).toArray, .agg (b.map (Value.int .u8)).toArray] w fun e w' => e = .returned (.bool (decide (be a < be b))) ∧ Keeps w w' := by
  have HA := Lib.hid ha; have HB := Lib.hid hb
  go_enter Tryd.func37, Tryd.ntmps37
  go_upto_region 1 with (fail)
  obtain ⟨p, q, W, hp, hq, hW, hk, hra, hrb, hs⟩ := two_rows w (a.map (Value.int .u8)) (b.map (Value.int .u8)) 23 23
  rw [← hW, ← hq, ← hp]
  clear hW hs hp hq
  have HRA := Lib.hid hra; have HRB := Lib.hid hrb; have HK := Lib.hid hk
  clear hra hrb hk ha hb
  go_wp2
  go_loopw [5] (fun c wr => ∃ i : Nat, i ≤ 32 ∧ c = .int .i64 i ∧ Qt W wr ∧ a.take i = b.take i) (fun c _ => (32 - intOf c).toNat)
  case atStart => exact ⟨0, by omega, rfl, Qt.refl _, by simp⟩
  case round =>
    obtain ⟨i, hi, rfl, ⟨m, rfl⟩, ht⟩ := hrel
    by_cases hlt : i < 32
    · have c1 := HRA.out.int0 i (by rw [hla]; exact hlt)
      have c2 := HRB.out.int0 i (by rw [hlb]; exact hlt)
      by_cases he : a.getD i 0 = b.getD i 0
      · have HN := Lib.hid (take_next (by omega) (by omega) ht he)
        rw [← he] at c2
        generalize a.getD i 0 = x at *
        have hne : (x != x) = false := by simp
        go_wp2
        go_quiet (fail)
        go_wp2
        go_roundw
        case rel => exact ⟨i + 1, by omega, by go_num, (by repeat (first | exact Qt.refl _ | exact Qt.drewN _ _ | refine Qt.trans ?_ (Qt.drewN _ _))), HN.out⟩
        case measure => simp [intOf]; omega
      · have hres : decide (a.getD i 0 < b.getD i 0) = decide (be a < be b) := by
          by_cases hx : a.getD i 0 < b.getD i 0
          · rw [decide_eq_true hx, decide_eq_true (be_less_at HA.out HB.out (by omega) (by omega) ht hx)]
          · have := be_less_at HB.out HA.out (by omega) (by omega) ht.symm (by omega)
            rw [decide_eq_false hx, decide_eq_false (by omega)]
        have HRES := Lib.hid hres
        clear hres
        have hne : (a.getD i 0 != b.getD i 0) = true := by simpa using he
        generalize a.getD i 0 = x at *
        generalize b.getD i 0 = y at *
        go_wp2
        go_quiet (fail)
        go_wp2
        go_quiet (fail)
        go_wp2
        go_ret
        exact ⟨by show Ending.returned (.bool (decide (x < y))) = _; rw [HRES.out], HK.out.trans (Qt.keeps (by repeat (first | exact Qt.refl _ | exact Qt.drewN _ _ | refine Qt.trans ?_ (Qt.drewN _ _))))⟩
    · obtain rfl : i = 32 := by omega
      have hab : a = b := by rw [List.take_of_length_le (by omega), List.take_of_length_le (by omega)] at ht; exact ht
      go_wp2
      go_ret
      exact ⟨by subst hab; simp, HK.out.trans (Qt.keeps (by repeat (first | exact Qt.refl _ | exact Qt.drewN _ _ | refine Qt.trans ?_ (Qt.drewN _ _))))⟩
end Go.Proofs.YtclhjlkgmeofcaaDoor
namespace Go.Proofs.YtclhjlkgmeofcaaDoor
set_option linter.unusedVariables false
set_option linter.unusedSimpArgs false
open Go Go.RowKit

/-- word j, when the first i bytes have come -/
def wcell (l : List Int) (i j : Nat) : Int := be (((l.take i).drop (24 - 8 * j)).take 8)
def wst (l : List Int) (i : Nat) : List Int := [wcell l i 0, wcell l i 1, wcell l i 2, wcell l i 3]
theorem wst_zero (l : List Int) : wst l 0 = [0, 0, 0, 0] := by simp [wst, wcell, be]
theorem wcell_range {l : List Int} (hb : Bytes l) (i j : Nat) : 0 ≤ wcell l i j ∧ wcell l i j < 18446744073709551616 := by
  have h := be_range (l := ((l.take i).drop (24 - 8 * j)).take 8) (fun x h => hb x (List.mem_of_mem_take (List.mem_of_mem_drop (List.mem_of_mem_take h))))
  have hlen : (((l.take i).drop (24 - 8 * j)).take 8).length ≤ 8 := by simp; omega
  refine ⟨h.1, Int.lt_of_lt_of_le h.2 ?_⟩
  have hp : ∀ k : Fin 9, (256 : Int) ^ k.val ≤ 18446744073709551616 := by decide
  exact hp ⟨_, by omega⟩
theorem wcell_step {l : List Int} (hb : Bytes l) (hl : l.length = 32) {i : Nat} (h : i < 32) : wcell l (i + 1) (3 - i / 8) = wcell l i (3 - i / 8) * 256 + l.getD i 0 ∧ wcell l i (3 - i / 8) * 256 < 18446744073709551616 ∧ ∀ j, j < 4 → j ≠ 3 - i / 8 → wcell l (i + 1) j = wcell l i j := by
  have h8 : 24 - 8 * (3 - i / 8) = 8 * (i / 8) := by omega
  have hlen : ((l.take i).drop (8 * (i / 8))).length ≤ 7 := by rw [List.length_drop, List.length_take]; omega
  refine ⟨?_, ?_, fun j hj hne => ?_⟩
  · unfold wcell
    have e : (l.take (i + 1)).drop (8 * (i / 8)) = (l.take i).drop (8 * (i / 8)) ++ [l.getD i 0] := by
      rw [List.take_succ_eq_append_getElem (by omega), List.drop_append_of_le_length (by rw [List.length_take]; omega)]
      simp [List.getD, show i < l.length by omega]
    rw [h8, e]
    generalize (l.take i).drop (8 * (i / 8)) = A at *
    have t1 : (A ++ [l.getD i 0]).take 8 = A ++ [l.getD i 0] := List.take_of_length_le (by rw [List.length_append, List.length_singleton]; omega)
    have t2 : A.take 8 = A := List.take_of_length_le (by omega)
    rw [t1, t2, be_snoc]
  · have hr := be_range (l := ((l.take i).drop (8 * (i / 8))).take 8) (fun x h => hb x (List.mem_of_mem_take (List.mem_of_mem_drop (List.mem_of_mem_take h))))
    have hlen2 : (((l.take i).drop (8 * (i / 8))).take 8).length ≤ 7 := by rw [List.length_take]; omega
    have hp : ∀ k : Fin 8, (256 : Int) ^ k.val ≤ 72057594037927936 := by decide
    unfold wcell
    rw [h8]
    generalize ((l.take i).drop (8 * (i / 8))).take 8 = A at *
    have h3 := Int.lt_of_lt_of_le hr.2 (hp ⟨A.length, by omega⟩)
    omega
  · unfold wcell
    by_cases hc : j < 3 - i / 8
    · rw [List.drop_eq_nil_of_le (by simp; omega), List.drop_eq_nil_of_le (by simp; omega)]
    · have e : ∀ m, 24 - 8 * j + 8 ≤ m → ((l.take m).drop (24 - 8 * j)).take 8 = (l.drop (24 - 8 * j)).take 8 := by
        intro m hm
        rw [List.drop_take, List.take_take, Nat.min_eq_left (by omega)]
      rw [e i (by omega), e (i + 1) (by omega)]
theorem wst_set {l : List Int} (hb : Bytes l) (hl : l.length = 32) {i : Nat} (h : i < 32) : (wst l i).set (3 - i / 8) (wcell l i (3 - i / 8) * 256 + l.getD i 0) = wst l (i + 1) := by
  obtain ⟨h1, _, h3⟩ := wcell_step hb hl h
  have hk : 3 - i / 8 = 0 ∨ 3 - i / 8 = 1 ∨ 3 - i / 8 = 2 ∨ 3 - i / 8 = 3 := by omega
  rw [← h1]
  unfold wst
  rcases hk with hk | hk | hk | hk <;> rw [hk] at h3 ⊢ <;> simp only [List.set_cons_zero, List.set_cons_succ]
  · rw [h3 1 (by omega) (by omega), h3 2 (by omega) (by omega), h3 3 (by omega) (by omega)]
  · rw [h3 0 (by omega) (by omega), h3 2 (by omega) (by omega), h3 3 (by omega) (by omega)]
  · rw [h3 0 (by omega) (by omega), h3 1 (by omega) (by omega), h3 3 (by omega) (by omega)]
  · rw [h3 0 (by omega) (by omega), h3 1 (by omega) (by omega), h3 2 (by omega) (by omega)]
theorem wst_getD (l : List Int) (i k : Nat) (hk : k < 4) : (wst l i).getD k 0 = wcell l i k := by
  have : k = 0 ∨ k = 1 ∨ k = 2 ∨ k = 3 := by omega
  rcases this with rfl | rfl | rfl | rfl <;> rfl
theorem wst_full {l : List Int} (hb : Bytes l) (hl : l.length = 32) : wst l 32 = words (be l) := by
  have key : ∀ j, j ≤ 3 → wcell l 32 j = be l / 18446744073709551616 ^ j % 18446744073709551616 := by
    intro j hj
    have e : l = l.take (24 - 8 * j) ++ ((l.drop (24 - 8 * j)).take 8 ++ l.drop (32 - 8 * j)) := by
      have h1 := List.take_append_drop (24 - 8 * j) l
      have h2 := List.take_append_drop 8 (l.drop (24 - 8 * j))
      rw [List.drop_drop, show 24 - 8 * j + 8 = 32 - 8 * j by omega] at h2
      rw [h2, h1]
    have hmid : (l.drop (24 - 8 * j)).take 8 = ((l.take 32).drop (24 - 8 * j)).take 8 := by rw [List.take_of_length_le (by omega : l.length ≤ 32)]
    have hml : ((l.drop (24 - 8 * j)).take 8).length = 8 := by simp; omega
    have htl : (l.drop (32 - 8 * j)).length = 8 * j := by simp; omega
    have ht := be_range (l := l.drop (32 - 8 * j)) (fun x h => hb x (List.mem_of_mem_drop h))
    have hm := be_range (l := (l.drop (24 - 8 * j)).take 8) (fun x h => hb x (List.mem_of_mem_drop (List.mem_of_mem_take h)))
    rw [htl] at ht
    rw [hml] at hm
    have hM : (18446744073709551616 : Int) ^ j = 256 ^ (8 * j) := by rw [Int.pow_mul]; rfl
    rw [wcell, ← hmid, hM]
    conv => rhs; rw [e]
    rw [be_append, be_append, List.length_append, hml, htl]
    generalize be ((l.drop (24 - 8 * j)).take 8) = B at *
    generalize be (l.drop (32 - 8 * j)) = C at *
    generalize be (l.take (24 - 8 * j)) = A at *
    have hp : (0 : Int) < 256 ^ (8 * j) := Int.pow_pos (by decide)
    rw [Int.pow_add, ← Int.mul_assoc, ← Int.add_assoc, ← Int.add_mul, Int.add_comm _ C, Int.add_mul_ediv_right _ _ (Int.ne_of_gt hp), Int.ediv_eq_zero_of_lt ht.1 ht.2, Int.zero_add]
    omega
  unfold wst words
  rw [key 0 (by omega), key 1 (by omega), key 2 (by omega), key 3 (by omega)]
  simp only [Int.pow_zero, Int.ediv_one]
  rfl
theorem w64_wraps (n : Int) (h₀ : 0 ≤ n) (h₁ : n < 2 ^ 64) : IntKind.u64.wrap n = n := by rw [IntKind.wrap_u64]; omega
theorem u64_join (i : Nat) (x y : Int) (hx₀ : 0 ≤ x) (hx : x % 2 ^ i = 0) (hx₁ : x < 2 ^ 64) (hy₀ : 0 ≤ y) (hy : y < 2 ^ i) (hy₁ : y < 2 ^ 64) : bits .or .u64 x y = x + y :=
  bits_join .u64 64 (by decide) w64_wraps i x y hx₀ hx hx₁ hy₀ hy hy₁
theorem sz_u8 : (Tryd.prog.info? 5).map (·.size) = some 1 := by kernel_rfl
theorem nm_sz_words : (Tryd.prog.info? 228).map (·.size) = some 4 := by kernel_rfl
theorem sz_number : (Tryd.prog.info? 57).map (·.size) = some 32 := by kernel_rfl
end Go.Proofs.YtclhjlkgmeofcaaDoor
namespace Go.Proofs.YtclhjlkgmeofcaaDoor
set_option linter.unusedVariables false
set_option linter.unusedSimpArgs false
open Go Go.RowKit

theorem words_getD (v : Int) (k : Nat) (hk : k < 4) : (words v).getD k 0 = v / 256 ^ (8 * k) % 18446744073709551616 := by
  have : k = 0 ∨ k = 1 ∨ k = 2 ∨ k = 3 := by omega
  rcases this with rfl | rfl | rfl | rfl
  · simp [words]
  · rfl
  · rfl
  · rfl
theorem words_byte (v : Int) (i : Nat) (hi : i < 32) : (words v).getD (3 - i / 8) 0 / 2 ^ (56 - 8 * (i % 8)) % 256 = (toB 32 v).getD i 0 := by
  rw [words_getD _ _ (by omega), toB_getD _ _ _ hi]
  have e : 32 - 1 - i = 8 * (3 - i / 8) + (7 - i % 8) := by omega
  rw [e, Int.pow_add, ← Int.ediv_ediv_of_nonneg (Int.pow_nonneg (by decide))]
  generalize v / 256 ^ (8 * (3 - i / 8)) = u
  have hr : i % 8 = 0 ∨ i % 8 = 1 ∨ i % 8 = 2 ∨ i % 8 = 3 ∨ i % 8 = 4 ∨ i % 8 = 5 ∨ i % 8 = 6 ∨ i % 8 = 7 := by omega
  rcases hr with hr | hr | hr | hr | hr | hr | hr | hr <;> rw [hr] <;> simp only [Nat.mul_zero, Nat.sub_zero, Nat.sub_self, Int.pow_zero, Int.ediv_one, Nat.reduceMul, Nat.reduceSub, Int.reducePow] <;> omega
theorem words_range (v : Int) (k : Nat) (hk : k < 4) : 0 ≤ (words v).getD k 0 ∧ (words v).getD k 0 < 18446744073709551616 := by
  rw [words_getD _ _ hk]; omega
/-- the byte that a word gives to place i -/
def wbyte (x : Int) (i : Nat) : Int := x / 2 ^ (56 - 8 * (i % 8)) % 256
theorem words_wbyte (v : Int) (i : Nat) (hi : i < 32) : wbyte ((words v).getD (3 - i / 8) 0) i = (toB 32 v).getD i 0 := words_byte v i hi
end Go.Proofs.YtclhjlkgmeofcaaDoor
namespace Go.Proofs.YtclhjlkgmeofcaaDoor
set_option linter.unusedVariables false
set_option linter.unusedSimpArgs false
open Go Go.RowKit

/-- the model's row for Sub64 -/
def sub64Entry : Array Value → Sem Value := fun args => do
  let (x, y, b) ← Extern.MathBitsCarry.three "Sub64" args
  pure (Extern.MathBitsCarry.pair ((x + Extern.MathBitsCarry.m64 - y - b) % Extern.MathBitsCarry.m64) (if x < y + b then 1 else 0))
theorem results_cell_tmpB {P : Program} {fn : Func} {p t : Tmp} {ty : TypeId} (h : fn.results = #[.cell p ty, .tmp t]) (tmps : Array Value) (w : World) (g off : Nat) (cs : List Value) (d : TypeDesc) (u : Value) (hu' : tmps.getD t undef = u)
    (hp : tmps.getD p undef = .pointer (some ⟨g, off, none⟩)) (hg : Row w g off cs)
    (hu : P.underlying ty = some d) (hd : (match d with | .struct _ | .array _ _ => true | _ => false) = true) (hi : (P.info? ty).map (·.size) = some cs.length) :
    (results fn tmps).run P w = .ok (.tuple #[.agg cs.toArray, u]) w := by
  have hp' : tmps[p]?.getD undef = .pointer (some ⟨g, off, none⟩) := by simpa using hp
  have ht' : tmps[t]?.getD undef = u := by simpa using hu'
  simp [results, h, hp', ht', asAddr, run_loadVar_at w g off ty cs d hg hu hd hi]
/-- the words once i of them are done -/
def mixW (r u : Int) (i : Nat) : List Int := (words r).take i ++ (words u).drop i
theorem mixW_zero (r u : Int) : mixW r u 0 = words u := rfl
theorem mixW_full (r u : Int) : mixW r u 4 = words r := rfl
theorem mixW_length (r u : Int) (i : Nat) (h : i ≤ 4) : (mixW r u i).length = 4 := by simp [mixW, words_length]; omega
theorem mixW_getD (r u : Int) (i : Nat) (h : i < 4) : (mixW r u i).getD i 0 = (words u).getD i 0 := by
  have : i = 0 ∨ i = 1 ∨ i = 2 ∨ i = 3 := by omega
  rcases this with rfl | rfl | rfl | rfl <;> rfl
theorem mixW_set (r u : Int) (i : Nat) (h : i < 4) : (mixW r u i).set i ((words r).getD i 0) = mixW r u (i + 1) := by
  have : i = 0 ∨ i = 1 ∨ i = 2 ∨ i = 3 := by omega
  rcases this with rfl | rfl | rfl | rfl <;> rfl
theorem keeps_drew1 {w W : World} (h : Keeps w W) : Keeps w W.drew := Below.drew h
end Go.Proofs.YtclhjlkgmeofcaaDoor
namespace Go.Proofs.YtclhjlkgmeofcaaDoor
set_option linter.unusedVariables false
set_option linter.unusedSimpArgs false
open Go Go.RowKit

theorem yieldsIf_row {P : Program} {ops : Array Oper} {S : World → Prop} {o : Oper} {a : Act} (hw : Region.wanted o (yielded ops a.tmps) = true) (ty : TypeId) (x : Operand) (ho : o.op = .load ty x)
    (g off : Nat) (hx : a.eval x = .pointer (some ⟨g, off, none⟩)) (cs : List Value) (d : TypeDesc) (hS : ∀ w, S w → Row w g off cs)
    (hu : P.underlying ty = some d) (hd : (match d with | .struct _ | .array _ _ => true | _ => false) = true) (hi : (P.info? ty).map (·.size) = some cs.length) : YieldsIf P ops S o (.agg cs.toArray) a :=
  .inl ⟨hw, fun w hw' => by
    unfold execOp
    simp only [ho, hx, Instr.loadAt, Instr.sureAddr, Sem.run_bind, Sem.run_pure, Result.andThen_ok, run_loadVar_at w g off ty cs d (hS w hw') hu hd hi]⟩
theorem wp_store_rowK {P : Program} {w : World} {o : Oper} {a : Act} {K : Act → World → Prop} {Q : Exit → Act → World → Prop} (T : TypeId) (x y : Operand) (ho : o.op = .store T x y)
    (g off : Nat) (hx : a.eval x = .pointer (some ⟨g, off, none⟩)) (olds cs : List Value) (hy : a.eval y = .agg cs.toArray) (hg : Row w g off olds) (hl : cs.length = olds.length)
    (hi : (P.info? T).map (·.size) = some cs.length) (h1 : ∀ v ∈ cs, v.oneCell' = true)
    (h : ∀ w', Row w' g off cs → Chg (· = g) w w' → K (a.put o.dst undef) w') : o.wp P a w K Q := by
  unfold Oper.wp execOp
  simp only [ho, hx, hy, Instr.storeAt, Instr.sureAddr, Sem.run_bind, Sem.run_pure, Result.andThen_ok, run_storeVar_row w g off T olds cs hg hl hi h1]
  exact h _ (hg.whole hl) (setCells_chg _ _ _ _)
/-- an order's end: the words' sum lies in a block of its own -/
structure AddMid (W wx : World) (s5 : Value) (p : Nat) (cs : List Value) : Prop where
  keeps : Keeps W wx
  at_ : ∃ g, s5 = .pointer (some ⟨g, 0, none⟩) ∧ W.heap.size ≤ g ∧ Row wx g 0 cs
end Go.Proofs.YtclhjlkgmeofcaaDoor
namespace Go.Proofs.YtclhjlkgmeofcaaDoor
set_option linter.unusedVariables false
set_option linter.unusedSimpArgs false
open Go Go.RowKit

theorem toU8_lt {x y : Int} (hx : Byte x) (hy : Byte y) : (x.toNat.toUInt8 < y.toNat.toUInt8) = (x < y) := by
  obtain ⟨h0, h1⟩ := hx
  obtain ⟨h2, h3⟩ := hy
  obtain ⟨X, rfl⟩ := Int.eq_ofNat_of_zero_le h0
  obtain ⟨Y, rfl⟩ := Int.eq_ofNat_of_zero_le h2
  rw [UInt8.lt_iff_toNat_lt]
  simp only [Int.toNat_natCast]
  have : ∀ n : Nat, n < 256 → n.toUInt8.toNat = n := fun n hn => by
    simp [Nat.mod_eq_of_lt hn]
  rw [this X (by omega), this Y (by omega)]
  simp
theorem compare_be : ∀ {a b : List Int}, a.length = b.length → Bytes a → Bytes b → Lib.compareBytes (Lib.bytesOf a) (Lib.bytesOf b) = cmpZ (be a) (be b)
  | [], [], _, _, _ => by simp [Lib.bytesOf, Lib.compareBytes, cmpZ, be]
  | x :: a, y :: b, hl, ha, hb => by
    have hl' : a.length = b.length := by simpa using hl
    have ha' : Bytes a := fun z h => ha z (by simp [h])
    have hb' : Bytes b := fun z h => hb z (by simp [h])
    have ih := compare_be hl' ha' hb'
    have hx := ha x (by simp)
    have hy := hb y (by simp)
    have e : ∀ (z : Int) (l : List Int), Lib.bytesOf (z :: l) = z.toNat.toUInt8 :: Lib.bytesOf l := fun z l => rfl
    rw [e, e, Lib.compareBytes]
    simp only [toU8_lt hx hy, toU8_lt hy hx, ih]
    rw [be_cons, be_cons, hl']
    have h1 := be_range ha'
    have h2 := be_range hb'
    rw [hl'] at h1
    have hM : (0 : Int) ≤ 256 ^ b.length := Int.pow_nonneg (by decide)
    by_cases hlt : x < y
    · rw [if_pos hlt]
      have : (x + 1) * 256 ^ b.length ≤ y * 256 ^ b.length := Int.mul_le_mul_of_nonneg_right (by omega) hM
      rw [Int.add_mul, Int.one_mul] at this
      unfold cmpZ
      rw [if_pos (by omega)]
    · rw [if_neg hlt]
      by_cases hgt : y < x
      · rw [if_pos hgt]
        have : (y + 1) * 256 ^ b.length ≤ x * 256 ^ b.length := Int.mul_le_mul_of_nonneg_right (by omega) hM
        rw [Int.add_mul, Int.one_mul] at this
        unfold cmpZ
        rw [if_neg (by omega), if_pos (by omega)]
      · rw [if_neg hgt]
        obtain rfl : x = y := by omega
        simp only [cmpZ, Int.add_lt_add_iff_left]
  | [], _ :: _, h, _, _ => by simp at h
  | _ :: _, [], h, _, _ => by simp at h
theorem compare_run (w : World) (g1 o1 c1 g2 o2 c2 : Nat) (a b : List Int) (n : Nat) (hla : a.length = n) (hlb : b.length = n) (ha : Bytes a) (hb : Bytes b)
    (h1 : Row w g1 o1 (a.map (Value.int .u8))) (h2 : Row w g2 o2 (b.map (Value.int .u8))) :
    (callFunc 121 #[.slice (some ⟨g1, o1, none⟩) n c1, .slice (some ⟨g2, o2, none⟩) n c2]).run Tryd.prog w = .ok (.value (.int .i64 (cmpZ (be a) (be b)))) w := by
  have key : ∀ (g o : Nat) (l : List Int), l.length = n → Row w g o (l.map (Value.int .u8)) → (Extern.Bytes.loadBytes ⟨g, o, none⟩ n .empty).run Tryd.prog w = .ok ⟨(Lib.bytesOf l).toArray⟩ w := by
    intro g o l hl hr
    have := Lib.run_loadBytesX (P := Tryd.prog) w l ⟨g, o, none⟩ .empty (fun j x hj => by
      have e : (⟨g, o, none⟩ : Addr).add j = ⟨g, o + j, none⟩ := by unfold Addr.add; split <;> simp_all
      rw [e]
      exact (hr j (.int .u8 x) (by simp [hj])).1)
    rw [hl] at this
    rw [this]
    congr 1
    apply ByteArray.ext
    show (#[] : Array UInt8) ++ (Lib.bytesOf l).toArray = (Lib.bytesOf l).toArray
    simp
  rw [run_callFunc_extern Tryd.func121 (by kernel_rfl) (by kernel_rfl) (by kernel_rfl) (e := Extern.BytealgCompare.compare) (by kernel_rfl)]
  have hrun : (Extern.BytealgCompare.compare #[.slice (some ⟨g1, o1, none⟩) n c1, .slice (some ⟨g2, o2, none⟩) n c2]).run Tryd.prog w = .ok (.int .i64 (cmpZ (be a) (be b))) w := by
    change Sem.run _ (do pure (goInt (Extern.BytealgCompare.cmp (← Extern.Bytes.bytesOf (.slice (some ⟨g1, o1, none⟩) n c1)) (← Extern.Bytes.bytesOf (.slice (some ⟨g2, o2, none⟩) n c2))))) w = _
    simp only [Extern.Bytes.bytesOf, Sem.run_bind, Sem.run_pure, key _ _ _ hla h1, key _ _ _ hlb h2, Result.andThen]
    rw [Lib.cmp_eq]
    simp only [List.toList_toArray]
    rw [compare_be (hla.trans hlb.symm) ha hb]
    rfl
  rw [hrun]
  rfl
set_option maxRecDepth 100000 in
theorem bcompare_any (a b : List Int) (ha : Bytes a) (hb : Bytes b) (hla : a.length = 32) (hlb : b.length = 32) (w : World) :
    Calls Tryd.prog 40 #[.agg (a.map (Value.int .u8)).toArray, .agg (b.map (Value.int .u8)).toArray] w fun e w' => e = .returned (.int .i64 (cmpZ (be a) (be b))) ∧ Keeps w w' := by
  go_enter Tryd.func40, Tryd.ntmps40
  go_upto_region 1 with (fail)
  obtain ⟨p, q, W, hp, hq, hW, hk, hra, hrb, hs⟩ := two_rows w (a.map (Value.int .u8)) (b.map (Value.int .u8)) 57 57
  rw [← hW, ← hq, ← hp]
  clear hW hs hp hq
  have hcr := fun n => compare_run (W.drewN n) p 0 32 q 0 32 a b 32 hla hlb ha hb (hra.drewN n) (hrb.drewN n)
  have HK := Lib.hid hk
  clear hra hrb hk ha hb
  have hcall : ∀ n, Calls Tryd.prog 85 #[.slice (some ⟨p, 0, none⟩) 32 32, .slice (some ⟨q, 0, none⟩) 32 32] (W.drewN n) fun e w' => e = .returned (.int .i64 (cmpZ (be a) (be b))) ∧ W.drewN n = w' := by
    intro n
    have h2 := hcr n
    clear hcr
    generalize cmpZ (be a) (be b) = z at *
    generalize W.drewN n = W2 at *
    go_enter Tryd.func85, Tryd.ntmps85
    go_wp2
    go_ret
    exact ⟨rfl, rfl⟩
  have HC := Lib.hid hcall
  clear hcall hcr
  go_quiet ((go_at_call 85; first | exact s1 (HC.out _) | exact s2 (HC.out _) | exact q1 (HC.out _) | exact q2 (HC.out _)))
  go_wp2
  go_ret
  exact ⟨ret_int rfl, HK.out.trans (Qt.keeps (by repeat (first | exact Qt.refl _ | exact Qt.drewN _ _ | refine Qt.trans ?_ (Qt.drewN _ _))))⟩
end Go.Proofs.YtclhjlkgmeofcaaDoor
