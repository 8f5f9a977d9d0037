/- HMAC with SHA-512, in plain Lean; and a copy into an array of one's own. -/
import Derived.Test.YthfepfpmkckdnaaDoorSum5
import Derived.Laws.CopyOwn
namespace Go.Proofs.YthfepfpmkckdnaaDoor.B64
set_option linter.unusedVariables false
set_option linter.unusedSimpArgs false
open Go Go.RowKit

theorem sz_u8i : (Tryd.prog.info? 5).map (·.size) = some 1 := by kernel_rfl
/-- the key, no longer than a block -/
def hkey (key : List Int) : List Int := if key.length ≤ 128 then key else sha512 key
theorem hkey_length (key : List Int) : (hkey key).length ≤ 128 := by
  unfold hkey
  split
  · assumption
  · rw [sha512_length]; omega
theorem hkey_bytes {key : List Int} (h : Bytes key) : Bytes (hkey key) := by
  unfold hkey
  split
  · exact h
  · exact sha512_bytes _
/-- filled up with noughts -/
def hpad (key : List Int) : List Int := hkey key ++ List.replicate (128 - (hkey key).length) 0
theorem hpad_length (key : List Int) : (hpad key).length = 128 := by have := hkey_length key; simp [hpad]; omega
theorem hpad_bytes {key : List Int} (h : Bytes key) : Bytes (hpad key) := by
  intro x hx
  simp only [hpad, List.mem_append, List.mem_replicate] at hx
  rcases hx with hx | ⟨_, rfl⟩
  · exact hkey_bytes h x hx
  · unfold Byte; omega
def hxor (c : Int) (l : List Int) : List Int := l.map fun x => bits .xor .u8 x c
theorem hxor_length (c : Int) (l : List Int) : (hxor c l).length = l.length := by simp [hxor]
theorem bits_u8_byte (op : BinOp) (a b : Int) : Byte (bits op .u8 a b) := by
  unfold bits Byte
  split <;> simp only [IntKind.wrap_u8] <;> exact ⟨by omega, by omega⟩
theorem hxor_bytes (c : Int) (l : List Int) : Bytes (hxor c l) := by
  intro x hx
  obtain ⟨y, _, rfl⟩ := List.mem_map.1 hx
  exact bits_u8_byte _ _ _
def hmac (key l : List Int) : List Int := sha512 (hxor 92 (hpad key) ++ sha512 (hxor 54 (hpad key) ++ l))
theorem hmac_length (key l : List Int) : (hmac key l).length = 64 := sha512_length _
theorem hmac_bytes (key l : List Int) : Bytes (hmac key l) := sha512_bytes _
/-- the first i turned, then as it was -/
def hmix (c : Int) (l : List Int) (i : Nat) : List Int := hxor c (l.take i) ++ l.drop i
theorem hmix_zero (c : Int) (l : List Int) : hmix c l 0 = l := by simp [hmix, hxor]
theorem hmix_full (c : Int) (l : List Int) (h : l.length = 128) : hmix c l 128 = hxor c l := by
  unfold hmix
  rw [List.take_of_length_le (by omega), List.drop_eq_nil_of_le (by omega), List.append_nil]
theorem hmix_length (c : Int) (l : List Int) (i : Nat) (h : l.length = 128) (hi : i ≤ 128) : (hmix c l i).length = 128 := by simp [hmix, hxor, h]; omega
theorem hmix_getD (c : Int) (l : List Int) (i : Nat) (h : l.length = 128) (hi : i < 128) : (hmix c l i).getD i 0 = l.getD i 0 := by
  simp only [hmix, List.getD]
  rw [List.getElem?_append_right (by simp [hxor]; omega), List.getElem?_drop]
  have e : i + (i - (hxor c (l.take i)).length) = i := by simp [hxor]; omega
  rw [e]
theorem hmix_set (c : Int) (l : List Int) (i : Nat) (h : l.length = 128) (hi : i < 128) : (hmix c l i).set i (bits .xor .u8 (l.getD i 0) c) = hmix c l (i + 1) := by
  unfold hmix
  have hl : (hxor c (l.take i)).length = i := by simp [hxor]; omega
  rw [List.set_append_right _ _ (by omega), hl, Nat.sub_self]
  have hd : l.drop i = l.getD i 0 :: l.drop (i + 1) := by
    rw [List.drop_eq_getElem_cons (by omega)]
    simp [List.getD, show i < l.length by omega]
  rw [hd, List.set_cons_zero, List.take_succ_eq_append_getElem (by omega)]
  simp only [hxor, List.map_append, List.map_cons, List.map_nil, List.append_assoc, List.cons_append, List.nil_append]
  simp only [List.getD, List.getElem?_eq_getElem (show i < l.length by omega), Option.getD_some]
theorem row_block {w : World} {g : Nat} {vs : List Value} {T : TypeId} (h : w.heap[g]? = some (.cells vs.toArray T (0, 0))) : Row w g 0 vs := fun j v hv => by
  rw [Nat.zero_add]
  refine ⟨?_, frozen_of_row _ _ _ _ _ h⟩
  rw [cell_of_row _ _ _ _ _ _ h]
  simpa using hv
/-- what is read copied to the front of an array of 128 bytes -/
theorem wpList_copy_rd {w : World} {ops : Array Oper} {rest : List Oper} {o : Oper} {a : Act} {Q : Exit → Act → World → Prop} (hgd : o.guard = none) (d s : Operand)
    (ho : o.op = .call { callee := .builtin .copy, args := #[d, s], argTypes := #[22, 22] }) (g c1 : Nat) (hd : a.eval d = .slice (some ⟨g, 0, none⟩) 128 c1) (sa : Option Addr) (n cap : Nat) (hs : a.eval s = .slice sa n cap) (hn : n ≤ 128)
    (cur : List Value) (T : TypeId) (hg : w.heap[g]? = some (.cells cur.toArray T (0, 0))) (hcur : cur.length = 128) (xs : List Value) (hr : Rd w 1 (.slice sa n cap) n xs) (h1 : ∀ v ∈ xs, v.oneCell' = true)
    (h : ∀ w', w'.heap[g]? = some (.cells (xs ++ cur.drop n).toArray T (0, 0)) → Chg (· = g) w w' → wpList Tryd.prog ops Q rest (a.put o.dst (goInt n)) w') : wpList Tryd.prog ops Q (o :: rest) a w := by
  have hxl : xs.length = n := by have := hr.1; simpa using this
  obtain ⟨_, a', cap', e, h2, h3, h4, h5⟩ := hr
  cases e
  by_cases h0 : n = 0
  · subst h0
    have hx0 : xs = [] := List.eq_nil_of_length_eq_zero hxl
    subst hx0
    exact wpList_copy_nothing hgd d s _ _ ho 5 Tryd.underlying22 sz_u8i _ _ _ _ _ _ hd hs (by simp) (h _ (by simpa using hg) (Chg.refl _ _))
  · cases sa with
    | none => exact absurd (h4 rfl).1 h0
    | some ad =>
      obtain ⟨g2, off, rfl, _, hrow⟩ := h5 ad rfl (by omega)
      have hadd : ∀ j, (⟨g2, off, none⟩ : Addr).add j = ⟨g2, off + j, none⟩ := fun j => by unfold Addr.add; split <;> simp_all
      refine wpList_copy_own (w := w) hgd d s _ _ ho 5 Tryd.underlying22 sz_u8i g 0 128 c1 ⟨g2, off, none⟩ n cap hd hs cur.toArray T hg xs (by rw [hxl]; exact (Nat.min_eq_left hn).symm) (fun j v hv => by rw [hadd]; exact (hrow j v hv).1) (by simp; omega) h1 ?_
      rw [hxl]
      refine h _ ?_ ⟨rfl, rfl, rfl, by simp [World.setRow], fun k _ hk => setRow_other _ _ _ _ hk⟩
      rw [setRow_heap _ _ _ _ _ _ hg]
      simp [hxl]
end Go.Proofs.YthfepfpmkckdnaaDoor.B64
