/- hash.Sum256, Double, Sum's Twice, and the reference's Double: SHA-256, and twice. -/
import Derived.Test.YthfepfpmkckdnaaDoorSumHash
import Derived.Test.YthfepfpmkckdnaaDoorRefSum
namespace Go.Proofs.YthfepfpmkckdnaaDoor
set_option linter.unusedVariables false
set_option linter.unusedSimpArgs false
open Go Go.RowKit

theorem outB_bytes (ws : List Int) : Bytes (outB ws) := by
  intro x hx
  simp only [outB, List.mem_flatMap, List.mem_cons, List.not_mem_nil, or_false] at hx
  obtain ⟨y, _, h⟩ := hx
  unfold Byte
  rcases h with rfl | rfl | rfl | rfl <;> omega
theorem sha_bytes (l : List Int) : Bytes (sha256 l) := outB_bytes _
theorem sha_length (l : List Int) : (sha256 l).length = 32 := outB_length _
theorem sz_b32 : (Tryd.prog.info? 28).map (·.size) = some 32 := by kernel_rfl
theorem sumAt_zero {W : World} {p : Nat} (h : Row W p 0 zeroSum) : SumAt W p 0 (.slice none 0 0) [] :=
  ⟨fun x hx => by simp at hx, by simp, ⟨⟨0, 0, 0, 0, 0, 0, 0, 0⟩, false, by unfold St.ok W32; simp, .inr ⟨rfl, rfl⟩, h⟩, Buf.nil _ _, by simp [Value.ownBlock]⟩
def zeros32 : List Value := List.replicate 32 (Value.int .u8 0)
/-- two new blocks: the result's, and a Sum that is nought -/
structure Fresh2 (w W : World) (p q : Nat) : Prop where
  keeps : Keeps w W
  res : Row W p 0 zeros32
  sum : SumAt W q 0 (.slice none 0 0) []
  new : w.heap.size ≤ p ∧ p < q
theorem fresh2 (w : World) (T U : TypeId) : Fresh2 w ((w.alloc (.cells zeros32.toArray T)).alloc (.cells zeroSum.toArray U)) w.heap.size (w.heap.size + 1) :=
  ⟨keeps_alloc (keeps_alloc (Keeps.refl w) _) _, (Row.new _ _ _ rfl).alloc _, by
    have := Row.new (w := w.alloc (.cells zeros32.toArray T)) zeroSum _ U rfl
    rw [World.size_alloc] at this
    exact sumAt_zero this, Nat.le_refl _, by omega⟩
theorem Fresh2.added {w W W' : World} {p q : Nat} {l : List Int} (h : Fresh2 w W p q) (ha : AddPost W W' q 0 (.slice none 0 0) ([] ++ l)) : ∃ wv, Keeps w W' ∧ Row W' p 0 zeros32 ∧ SumAt W' q 0 wv l := by
  obtain ⟨wv, h1, h2, _⟩ := ha
  refine ⟨wv, ?_, h.res.chg h2 ?_, h1⟩
  · exact Below.trans h.keeps (h2.below h.keeps.size (fun k hk e => by
      rcases e with e | e
      · have := h.new; omega
      · simp [Value.ownBlock] at e))
  · rintro (e | e)
    · have := h.new; omega
    · simp [Value.ownBlock] at e
/-- behind the first of two digests: a block holds it -/
theorem rd_sha {W : World} {q : Nat} {l : List Int} (h : Row W q 0 ((sha256 l).map (Value.int .u8))) : Rd W 1 (.slice (some ⟨q, 0, none⟩) 32 32) 32 ((sha256 l).map (Value.int .u8)) :=
  Rd.of_row h (by simp [sha_length]) (h.lt (by intro e; have := congrArg List.length e; rw [List.length_map, sha_length] at this; simp at this)) (Nat.le_refl _) (by unfold maxLen; omega)
end Go.Proofs.YthfepfpmkckdnaaDoor
