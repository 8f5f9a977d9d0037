/- The reference's SHA-256, word by word: what its loops hold. Plain: no program. -/
import Derived.Test.YthfepfpmkckdnaaDoorSumHash
import Derived.Laws.BitsAllLaws
import Derived.Laws.BitsLemmas
namespace Go.Proofs.YthfepfpmkckdnaaDoor
set_option linter.unusedVariables false
set_option linter.unusedSimpArgs false
open Go Go.RowKit

theorem w32_wraps (n : Int) (h₀ : 0 ≤ n) (h₁ : n < 2 ^ 32) : IntKind.u32.wrap n = n := by rw [IntKind.wrap_u32]; omega
theorem u32_join (i : Nat) (x y : Int) (hx₀ : 0 ≤ x) (hx : x % 2 ^ i = 0) (hx₁ : x < 2 ^ 32) (hy₀ : 0 ≤ y) (hy : y < 2 ^ i) (hy₁ : y < 2 ^ 32) : bits .or .u32 x y = x + y :=
  bits_join .u32 32 (by decide) w32_wraps i x y hx₀ hx hx₁ hy₀ hy hy₁
theorem word_sum {l : List Int} (h : Bytes l) (i : Nat) : word l i = l.getD (4 * i) 0 * 16777216 + l.getD (4 * i + 1) 0 * 65536 + l.getD (4 * i + 2) 0 * 256 + l.getD (4 * i + 3) 0 := by
  unfold word
  obtain ⟨a0, a1⟩ := h.getD (4 * i)
  obtain ⟨b0, b1⟩ := h.getD (4 * i + 1)
  obtain ⟨c0, c1⟩ := h.getD (4 * i + 2)
  obtain ⟨d0, d1⟩ := h.getD (4 * i + 3)
  generalize l.getD (4 * i) 0 = a at *
  generalize l.getD (4 * i + 1) 0 = b at *
  generalize l.getD (4 * i + 2) 0 = c at *
  generalize l.getD (4 * i + 3) 0 = d at *
  rw [u32_join 24 (a * 16777216) (b * 65536) (by omega) (by omega) (by omega) (by omega) (by omega) (by omega)]
  rw [u32_join 16 (a * 16777216 + b * 65536) (c * 256) (by omega) (by omega) (by omega) (by omega) (by omega) (by omega)]
  rw [u32_join 8 (a * 16777216 + b * 65536 + c * 256) d (by omega) (by omega) (by omega) (by omega) (by omega) (by omega)]
/-- the reference's word, after i of its bytes -/
def wpart (l : List Int) (t : Nat) : Nat → Int
  | 0 => 0
  | i + 1 => (wpart l t i * 256 + l.getD (4 * t + i) 0) % 4294967296
theorem wpart_full {l : List Int} (h : Bytes l) (t : Nat) : wpart l t 4 = word l t := by
  rw [word_sum h]
  simp only [wpart, Nat.add_zero]
  obtain ⟨a0, a1⟩ := h.getD (4 * t)
  obtain ⟨b0, b1⟩ := h.getD (4 * t + 1)
  obtain ⟨c0, c1⟩ := h.getD (4 * t + 2)
  obtain ⟨d0, d1⟩ := h.getD (4 * t + 3)
  omega
theorem wpart_range (l : List Int) (t i : Nat) : W32 (wpart l t i) := by
  cases i with
  | zero => exact ⟨by simp [wpart], by simp [wpart]⟩
  | succ i => exact ⟨by simp only [wpart]; omega, by simp only [wpart]; omega⟩
/-- the words so far, one that is being made, and noughts -/
def wbuf (l : List Int) (t i : Nat) : List Int := (sbuf l t).set t (wpart l t i)
theorem wbuf_zero (l : List Int) (t : Nat) (ht : t < 64) : wbuf l t 0 = sbuf l t := by
  unfold wbuf sbuf
  rw [List.set_append_right _ _ (by rw [sched_length]; omega)]
  simp only [sched_length, Nat.sub_self]
  rw [show 64 - t = (63 - t) + 1 by omega, List.replicate_succ]
  rfl
theorem wbuf_set (l : List Int) (t i : Nat) : (wbuf l t i).set t (wpart l t (i + 1)) = wbuf l t (i + 1) := by
  unfold wbuf; rw [List.set_set]
theorem wbuf_full {l : List Int} (h : Bytes l) (t : Nat) (ht : t < 16) : wbuf l t 4 = sbuf l (t + 1) := by
  unfold wbuf
  exact sbuf_set l t (by omega) _ (by rw [if_pos ht, wpart_full h])
theorem wbuf_length (l : List Int) (t i : Nat) (h : t ≤ 64) : (wbuf l t i).length = 64 := by unfold wbuf; rw [List.length_set, sbuf_length _ _ h]
theorem wbuf_getD (l : List Int) (t i : Nat) (h : t < 64) : (wbuf l t i).getD t 0 = wpart l t i := by
  unfold wbuf
  have : t < (sbuf l t).length := by rw [sbuf_length _ _ (by omega)]; exact h
  simp [List.getD, this]
theorem snext_ref (ws : List Int) (n : Nat) : (ssig1 (ws.getD (n - 2) 0) + ws.getD (n - 7) 0 + ssig0 (ws.getD (n - 15) 0) + ws.getD (n - 16) 0) % 4294967296 = snext ws n := by
  unfold snext; congr 1; omega
theorem outB_getD (s : St) (i : Nat) (hi : i < 32) : (outB s.list).getD i 0 = s.list.getD (i / 4) 0 / 2 ^ (24 - 8 * (i % 4)) % 256 := by
  have : ∀ x : Int, x % 256 = x / 1 % 256 := fun x => by rw [Int.ediv_one]
  obtain ⟨a, b, c, d, e, f, g, h⟩ := s
  simp only [outB, St.list]
  rcases i with _ | _ | _ | _ | _ | _ | _ | _ | _ | _ | _ | _ | _ | _ | _ | _ | _ | _ | _ | _ | _ | _ | _ | _ | _ | _ | _ | _ | _ | _ | _ | _ | i
  all_goals first | rfl | exact this _ | omega
theorem outB_length (s : St) : (outB s.list).length = 32 := rfl
/-- the first i bytes, then noughts -/
def outR (s : St) (i : Nat) : List Int := (outB s.list).take i ++ List.replicate (32 - i) 0
theorem outR_zero (s : St) : outR s 0 = List.replicate 32 0 := rfl
theorem outR_full (s : St) : outR s 32 = outB s.list := by
  unfold outR
  rw [List.take_of_length_le (by rw [outB_length]; omega)]; simp
theorem outR_length (s : St) (i : Nat) (h : i ≤ 32) : (outR s i).length = 32 := by simp [outR, outB_length]; omega
theorem outR_set (s : St) (i : Nat) (h : i < 32) : (outR s i).set i (s.list.getD (i / 4) 0 / 2 ^ (24 - 8 * (i % 4)) % 256) = outR s (i + 1) := by
  rw [← outB_getD s i h]
  unfold outR
  rw [List.set_append_right _ _ (by simp [outB_length]; omega)]
  have e : i - ((outB s.list).take i).length = 0 := by simp [outB_length]; omega
  rw [e, show 32 - i = (32 - (i + 1)) + 1 by omega, List.replicate_succ, List.set_cons_zero]
  have hl : i < (outB s.list).length := by rw [outB_length]; exact h
  rw [List.take_succ_eq_append_getElem hl, List.append_assoc]
  simp [List.getD, hl]
end Go.Proofs.YthfepfpmkckdnaaDoor
