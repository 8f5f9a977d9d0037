/- Numbers of 256 bits: block's words, their sum, and back. | Numbers of 256 bits: block's words as bytes again. | A region that draws its order, whose operations but the last ones (in one forced order) are quiet: the first ones are walked once, in the order of the text; then the last ones as a plain list. (The kit's StillTail, at the class of worlds of its Quiet.) No condition. -/
import Derived.Test.YtclhjlkgmeofcaaDoorGA4
import Derived.Laws.Externs
import Derived.StillTail
import Derived.Deep.QuietTactic
import Derived.BigQuiet
namespace Go.Proofs.YtclhjlkgmeofcaaDoor
set_option linter.unusedVariables false
set_option linter.unusedSimpArgs false
open Go Go.RowKit

/-- word j, when the first i bytes have come -/
def wcell (l : List Int) (i j : Nat) : Int := be (((l.take i).drop (24 - 8 * j)).take 8)
def wst (l : List Int) (i : Nat) : List Int := [wcell l i 0, wcell l i 1, wcell l i 2, wcell l i 3]
theorem wst_zero (l : List Int) : wst l 0 = [0, 0, 0, 0] := by simp [wst, wcell, be]
theorem wcell_range {l : List Int} (hb : Bytes l) (i j : Nat) : 0 ≤ wcell l i j ∧ wcell l i j < 18446744073709551616 := by
  have h := be_range (l := ((l.take i).drop (24 - 8 * j)).take 8) (fun x h => hb x (List.mem_of_mem_take (List.mem_of_mem_drop (List.mem_of_mem_take h))))
  have hlen : (((l.take i).drop (24 - 8 * j)).take 8).length ≤ 8 := by simp; omega
  refine ⟨h.1, Int.lt_of_lt_of_le h.2 ?_⟩
  have hp : ∀ k : Fin 9, (256 : Int) ^ k.val ≤ 18446744073709551616 := by decide
  exact hp ⟨_, by omega⟩
theorem wcell_step {l : List Int} (hb : Bytes l) (hl : l.length = 32) {i : Nat} (h : i < 32) : wcell l (i + 1) (3 - i / 8) = wcell l i (3 - i / 8) * 256 + l.getD i 0 ∧ wcell l i (3 - i / 8) * 256 < 18446744073709551616 ∧ ∀ j, j < 4 → j ≠ 3 - i / 8 → wcell l (i + 1) j = wcell l i j := by
  have h8 : 24 - 8 * (3 - i / 8) = 8 * (i / 8) := by omega
  have hlen : ((l.take i).drop (8 * (i / 8))).length ≤ 7 := by rw [List.length_drop, List.length_take]; omega
  refine ⟨?_, ?_, fun j hj hne => ?_⟩
  · unfold wcell
    have e : (l.take (i + 1)).drop (8 * (i / 8)) = (l.take i).drop (8 * (i / 8)) ++ [l.getD i 0] := by
      rw [List.take_succ_eq_append_getElem (by omega), List.drop_append_of_le_length (by rw [List.length_take]; omega)]
      simp [List.getD, show i < l.length by omega]
    rw [h8, e]
    generalize (l.take i).drop (8 * (i / 8)) = A at *
    have t1 : (A ++ [l.getD i 0]).take 8 = A ++ [l.getD i 0] := List.take_of_length_le (by rw [List.length_append, List.length_singleton]; omega)
    have t2 : A.take 8 = A := List.take_of_length_le (by omega)
    rw [t1, t2, be_snoc]
  · have hr := be_range (l := ((l.take i).drop (8 * (i / 8))).take 8) (fun x h => hb x (List.mem_of_mem_take (List.mem_of_mem_drop (List.mem_of_mem_take h))))
    have hlen2 : (((l.take i).drop (8 * (i / 8))).take 8).length ≤ 7 := by rw [List.length_take]; omega
    have hp : ∀ k : Fin 8, (256 : Int) ^ k.val ≤ 72057594037927936 := by decide
    unfold wcell
    rw [h8]
    generalize ((l.take i).drop (8 * (i / 8))).take 8 = A at *
    have h3 := Int.lt_of_lt_of_le hr.2 (hp ⟨A.length, by omega⟩)
    omega
  · unfold wcell
    by_cases hc : j < 3 - i / 8
    · rw [List.drop_eq_nil_of_le (by simp; omega), List.drop_eq_nil_of_le (by simp; omega)]
    · have e : ∀ m, 24 - 8 * j + 8 ≤ m → ((l.take m).drop (24 - 8 * j)).take 8 = (l.drop (24 - 8 * j)).take 8 := by
        intro m hm
        rw [List.drop_take, List.take_take, Nat.min_eq_left (by omega)]
      rw [e i (by omega), e (i + 1) (by omega)]
theorem wst_set {l : List Int} (hb : Bytes l) (hl : l.length = 32) {i : Nat} (h : i < 32) : (wst l i).set (3 - i / 8) (wcell l i (3 - i / 8) * 256 + l.getD i 0) = wst l (i + 1) := by
  obtain ⟨h1, _, h3⟩ := wcell_step hb hl h
  have hk : 3 - i / 8 = 0 ∨ 3 - i / 8 = 1 ∨ 3 - i / 8 = 2 ∨ 3 - i / 8 = 3 := by omega
  rw [← h1]
  unfold wst
  rcases hk with hk | hk | hk | hk <;> rw [hk] at h3 ⊢ <;> simp only [List.set_cons_zero, List.set_cons_succ]
  · rw [h3 1 (by omega) (by omega), h3 2 (by omega) (by omega), h3 3 (by omega) (by omega)]
  · rw [h3 0 (by omega) (by omega), h3 2 (by omega) (by omega), h3 3 (by omega) (by omega)]
  · rw [h3 0 (by omega) (by omega), h3 1 (by omega) (by omega), h3 3 (by omega) (by omega)]
  · rw [h3 0 (by omega) (by omega), h3 1 (by omega) (by omega), h3 2 (by omega) (by omega)]
theorem wst_getD (l : List Int) (i k : Nat) (hk : k < 4) : (wst l i).getD k 0 = wcell l i k := by
  have : k = 0 ∨ k = 1 ∨ k = 2 ∨ k = 3 := by omega
  rcases this with rfl | rfl | rfl | rfl <;> rfl
theorem wst_full {l : List Int} (hb : Bytes l) (hl : l.length = 32) : wst l 32 = words (be l) := by
  have key : ∀ j, j ≤ 3 → wcell l 32 j = be l / 18446744073709551616 ^ j % 18446744073709551616 := by
    intro j hj
    have e : l = l.take (24 - 8 * j) ++ ((l.drop (24 - 8 * j)).take 8 ++ l.drop (32 - 8 * j)) := by
      have h1 := List.take_append_drop (24 - 8 * j) l
      have h2 := List.take_append_drop 8 (l.drop (24 - 8 * j))
      rw [List.drop_drop, show 24 - 8 * j + 8 = 32 - 8 * j by omega] at h2
      rw [h2, h1]
    have hmid : (l.drop (24 - 8 * j)).take 8 = ((l.take 32).drop (24 - 8 * j)).take 8 := by rw [List.take_of_length_le (by omega : l.length ≤ 32)]
    have hml : ((l.drop (24 - 8 * j)).take 8).length = 8 := by simp; omega
    have htl : (l.drop (32 - 8 * j)).length = 8 * j := by simp; omega
    have ht := be_range (l := l.drop (32 - 8 * j)) (fun x h => hb x (List.mem_of_mem_drop h))
    have hm := be_range (l := (l.drop (24 - 8 * j)).take 8) (fun x h => hb x (List.mem_of_mem_drop (List.mem_of_mem_take h)))
    rw [htl] at ht
    rw [hml] at hm
    have hM : (18446744073709551616 : Int) ^ j = 256 ^ (8 * j) := by rw [Int.pow_mul]; rfl
    rw [wcell, ← hmid, hM]
    conv => rhs; rw [e]
    rw [be_append, be_append, List.length_append, hml, htl]
    generalize be ((l.drop (24 - 8 * j)).take 8) = B at *
    generalize be (l.drop (32 - 8 * j)) = C at *
    generalize be (l.take (24 - 8 * j)) = A at *
    have hp : (0 : Int) < 256 ^ (8 * j) := Int.pow_pos (by decide)
    rw [Int.pow_add, ← Int.mul_assoc, ← Int.add_assoc, ← Int.add_mul, Int.add_comm _ C, Int.add_mul_ediv_right _ _ (Int.ne_of_gt hp), Int.ediv_eq_zero_of_lt ht.1 ht.2, Int.zero_add]
    omega
  unfold wst words
  rw [key 0 (by omega), key 1 (by omega), key 2 (by omega), key 3 (by omega)]
  simp only [Int.pow_zero, Int.ediv_one]
  rfl
theorem w64_wraps (n : Int) (h₀ : 0 ≤ n) (h₁ : n < 2 ^ 64) : IntKind.u64.wrap n = n := by rw [IntKind.wrap_u64]; omega
theorem u64_join (i : Nat) (x y : Int) (hx₀ : 0 ≤ x) (hx : x % 2 ^ i = 0) (hx₁ : x < 2 ^ 64) (hy₀ : 0 ≤ y) (hy : y < 2 ^ i) (hy₁ : y < 2 ^ 64) : bits .or .u64 x y = x + y :=
  bits_join .u64 64 (by decide) w64_wraps i x y hx₀ hx hx₁ hy₀ hy hy₁
theorem sz_u8 : (Tryd.prog.info? 5).map (·.size) = some 1 := by kernel_rfl
theorem nm_sz_words : (Tryd.prog.info? 228).map (·.size) = some 4 := by kernel_rfl
theorem sz_number : (Tryd.prog.info? 57).map (·.size) = some 32 := by kernel_rfl
end Go.Proofs.YtclhjlkgmeofcaaDoor
namespace Go.Proofs.YtclhjlkgmeofcaaDoor
set_option linter.unusedVariables false
set_option linter.unusedSimpArgs false
open Go Go.RowKit

theorem words_getD (v : Int) (k : Nat) (hk : k < 4) : (words v).getD k 0 = v / 256 ^ (8 * k) % 18446744073709551616 := by
  have : k = 0 ∨ k = 1 ∨ k = 2 ∨ k = 3 := by omega
  rcases this with rfl | rfl | rfl | rfl
  · simp [words]
  · rfl
  · rfl
  · rfl
theorem words_byte (v : Int) (i : Nat) (hi : i < 32) : (words v).getD (3 - i / 8) 0 / 2 ^ (56 - 8 * (i % 8)) % 256 = (toB 32 v).getD i 0 := by
  rw [words_getD _ _ (by omega), toB_getD _ _ _ hi]
  have e : 32 - 1 - i = 8 * (3 - i / 8) + (7 - i % 8) := by omega
  rw [e, Int.pow_add, ← Int.ediv_ediv_of_nonneg (Int.pow_nonneg (by decide))]
  generalize v / 256 ^ (8 * (3 - i / 8)) = u
  have hr : i % 8 = 0 ∨ i % 8 = 1 ∨ i % 8 = 2 ∨ i % 8 = 3 ∨ i % 8 = 4 ∨ i % 8 = 5 ∨ i % 8 = 6 ∨ i % 8 = 7 := by omega
  rcases hr with hr | hr | hr | hr | hr | hr | hr | hr <;> rw [hr] <;> simp only [Nat.mul_zero, Nat.sub_zero, Nat.sub_self, Int.pow_zero, Int.ediv_one, Nat.reduceMul, Nat.reduceSub, Int.reducePow] <;> omega
theorem words_range (v : Int) (k : Nat) (hk : k < 4) : 0 ≤ (words v).getD k 0 ∧ (words v).getD k 0 < 18446744073709551616 := by
  rw [words_getD _ _ hk]; omega
/-- the byte that a word gives to place i -/
def wbyte (x : Int) (i : Nat) : Int := x / 2 ^ (56 - 8 * (i % 8)) % 256
theorem words_wbyte (v : Int) (i : Nat) (hi : i < 32) : wbyte ((words v).getD (3 - i / 8) 0) i = (toB 32 v).getD i 0 := words_byte v i hi
end Go.Proofs.YtclhjlkgmeofcaaDoor
namespace Go.Proofs.YtclhjlkgmeofcaaDoor
set_option linter.unusedVariables false
set_option linter.unusedSimpArgs false
open Go
section
variable {P : Program} {ops : Array Oper} {md : Region.Mode} {C : World → Prop}
def wpAnyQL (P : Program) (md : Region.Mode) (ops : Array Oper) (C : World → Prop) (n : Nat) (L : Array Bool → Act → Prop) : Nat → Array Bool → Act → Prop
  | 0, listed, a => L listed a
  | f + 1, listed, a =>
    Region.ready md ops listed ≠ [] ∧ ∀ i ∈ Region.ready md ops listed, i < n ∧ qOp P ops C i (wpAnyQL P md ops C n L f (listed.setIfInBounds i true)) a
theorem wpAny_of_qhead {n g : Nat} {L : Array Bool → Act → Prop} {Q' : Exit → Act → World → Prop} (hL : ∀ listed a w, C w → L listed a → wpAny P md ops Q' g listed a w) :
    ∀ (f : Nat) (listed : Array Bool) (a : Act) (w : World), C w → wpAnyQL P md ops C n L f listed a → wpAny P md ops Q' (f + g) listed a w
  | 0, listed, a, w, hw, h => by rw [Nat.zero_add]; exact hL _ _ _ hw h
  | f + 1, listed, a, w, hw, h => by
    rw [show f + 1 + g = (f + g) + 1 by omega]
    exact ⟨fun h0 => absurd h0 h.1, fun i hi => wpOp_of_qOp hw (fun a' w' hw' h' => wpAny_of_qhead hL f _ a' w' hw' h') (h.2 i hi).2⟩
theorem wpAnyQL_first {n i : Nat} {oi : Oper} {v : Value} {L : Array Bool → Act → Prop} (hi : ops[i]? = some oi) (hsel : ∀ (j : Nat) (o : Oper) cs b, ops[j]? = some o → o.op ≠ .select cs b)
    (hs : Region.sinkB md ops n = true) (hc : Region.chainB md ops n = true) (hn : n < ops.size) (hin : i < n)
    (hdone : ∀ listed a, L listed a → ∀ j ∈ Region.ready md ops listed, n ≤ j) :
    ∀ (f : Nat) (listed : Array Bool) (a : Act), HeadInv md ops n listed →
      (∀ j oj, ops[j]? = some oj → j ≠ i → listed.getD j true = false → (∀ e ∈ oj.after, Region.binds md e = true → e.on ≠ i) → oi.apart ops oj = true) →
      i ∈ Region.ready md ops listed → YieldsIn P ops C oi v a →
      wpAnyQL P md ops C n L f (listed.setIfInBounds i true) (a.put oi.dst v) → wpAnyQL P md ops C n L (f + 1) listed a := by
  intro f
  induction f with
  | zero =>
    intro listed a inv _ hr hy H
    have hun := (mem_ready.1 hr).1
    refine ⟨fun h => (by rw [h] at hr; cases hr), fun j hj => ?_⟩
    have hjn : j < n := by
      rcases Nat.lt_or_ge j n with h | h
      · exact h
      · exact absurd hj (tail_waits hs hc hn inv _ i rfl hin hun j h)
    refine ⟨hjn, ?_⟩
    by_cases hji : j = i
    · subst hji; exact hy.qOp hi H
    · have := hdone _ _ H j (ready_mono hj hji)
      omega
  | succ f ih =>
    intro listed a inv hfree hr hy H
    have hun := (mem_ready.1 hr).1
    refine ⟨fun h => (by rw [h] at hr; cases hr), fun j hj => ?_⟩
    have hjn : j < n := by
      rcases Nat.lt_or_ge j n with h | h
      · exact h
      · exact absurd hj (tail_waits hs hc hn inv _ i rfl hin hun j h)
    refine ⟨hjn, ?_⟩
    by_cases hji : j = i
    · subst hji; exact hy.qOp hi H
    · have h1 := (H.2 j (ready_mono hj hji)).2
      obtain ⟨hjun, oj, hoj, hall⟩ := mem_ready.1 hj
      have hnot : ∀ e ∈ oj.after, Region.binds md e = true → e.on ≠ i := fun e he hb heq => by
        have h1 := hall e he hb
        rw [heq, getD_both hun] at h1
        cases h1
      have h2 := qOp_put hoj (hfree j oj hoj hji hjun hnot) (fun cs b => hsel i oi cs b hi) (fun cs b => hsel j oj cs b hoj) hy h1
      have hfree' : ∀ k ok, ops[k]? = some ok → k ≠ i → (listed.setIfInBounds j true).getD k true = false →
          (∀ e ∈ ok.after, Region.binds md e = true → e.on ≠ i) → oi.apart ops ok = true := fun k ok hk hki hun hno => by
        refine hfree k ok hk hki ?_ hno
        by_cases hjk : j = k
        · subst hjk; exact hjun
        · rw [getD_set_ne true hjk] at hun; exact hun
      refine qOp_mono (fun a' h3 => ih (listed.setIfInBounds j true) a' (inv.set hj hjn) hfree' (ready_mono hr (Ne.symm hji)) h3.1 ?_) h2
      rw [Array.setIfInBounds_comm _ _ hji]
      exact h3.2
theorem wpAnyQL_lex {n g : Nat} {Lq : Act → Prop} (hsel : Region.noSelect ops = true) (hs : Region.sinkB md ops n = true) (hc : Region.chainB md ops n = true) (hn : n < ops.size) :
    ∀ (l : List Oper) (k : Nat) (listed : Array Bool) (a : Act), (∀ j, j < l.length → l[j]? = ops[k + j]?) → k + l.length = n → HeadInv md ops n listed →
    Region.lexHead md ops g l.length k listed = true → wpQuiet P ops C Lq l a →
    wpAnyQL P md ops C n (fun listed' a' => Region.seqB md ops g n listed' = true ∧ Lq a') l.length listed a
  | [], k, listed, a, _, hk, _, hB, h => by
    have : k = n := by simpa using hk
    subst this
    exact ⟨by simpa [Region.lexHead] using hB, h⟩
  | o :: l, k, listed, a, hl, hk, inv, hB, h => by
    have h0 : ops[k]? = some o := by simpa using (hl 0 (by simp)).symm
    simp only [List.length_cons, Region.lexHead, Bool.and_eq_true] at hB
    obtain ⟨⟨hr, hf⟩, hB'⟩ := hB
    have hkn : k < n := by simp only [List.length_cons] at hk; omega
    have hr' : k ∈ Region.ready md ops listed := by simpa using hr
    have hst : qOp P ops C k (wpQuiet P ops C Lq l) a := by unfold qOp; simp only [h0]; exact h
    obtain ⟨v, hy, hK⟩ := yieldsIn_of_qOp h0 hst
    exact wpAnyQL_first h0 (Region.noSelect_spec hsel) hs hc hn hkn (fun listed' a' hL => seqB_ready hL.1) l.length listed a inv (Region.free_spec h0 hf) hr' hy
      (wpAnyQL_lex hsel hs hc hn l (k + 1) _ _ (fun j hj => by have := hl (j + 1) (by simp; omega); simpa [Nat.add_assoc, Nat.add_comm 1 j] using this) (by simp only [List.length_cons] at hk; omega) (inv.set hr' hkn) hB' hK)
theorem wp_region_quiet_tail {id : Nat} {Q : Exit → Act → World → Prop} {a : Act} {w : World} {l : List Oper} (n : Nat) (hm : P.follows .mixedOrders = true) (hB : Region.lexTailB .any l.toArray n = true)
    (h : wpQuiet P l.toArray (fun w' => ∃ m, w' = w.drewN m) (fun a' => ∀ w', (∃ m, w' = w.drewN m) → wpList P l.toArray Q (l.drop n) a' w') (l.take n) a) : (Code.region id l.toArray true).wp P Q a w := by
  simp only [Region.lexTailB, Bool.and_eq_true, decide_eq_true_eq] at hB
  obtain ⟨⟨⟨⟨hsel, hn⟩, hs⟩, hc⟩, hlex⟩ := hB
  have hn' : n < l.length := by simpa using hn
  have htl : (l.take n).length = n := by simp; omega
  have hdl : (l.drop n).length = l.toArray.size - n := by simp
  have inv0 : HeadInv .any l.toArray n (Array.replicate l.toArray.size false) :=
    ⟨by simp, fun j oj _ hl => (by rw [getD_replicate_false] at hl; cases hl), fun t _ ht => getD_in (by simpa using ht) (getD_replicate_false _ _)⟩
  have H := wpAnyQL_lex (md := .any) (g := l.toArray.size - n) hsel hs hc hn (l.take n) 0 _ a (fun j hj => by
    have hj' : j < n := by rw [htl] at hj; exact hj
    simp [hj']) (by simpa using htl) inv0 (by rw [htl]; exact hlex) h
  refine wp_region_any hm ?_
  have := wpAny_of_qhead (Q' := Q) (g := l.toArray.size - n) (fun listed a' w' hw' hL => by
    have := wpAny_of_seq (md := .any) (Q' := Q) (l.drop n) n listed a' w' (fun j => by simp [List.getElem?_drop]) (by rw [hdl]; exact hL.1) (hL.2 w' hw')
    rwa [hdl] at this) _ _ _ { w with drawn := w.drawn + 1 } ⟨1, rfl⟩ H
  rw [htl, show n + (l.toArray.size - n) = l.toArray.size by omega] at this
  exact this
end
end Go.Proofs.YtclhjlkgmeofcaaDoor
