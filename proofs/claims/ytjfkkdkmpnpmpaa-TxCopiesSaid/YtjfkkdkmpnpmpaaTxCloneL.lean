/- slices.Clone at inputs, outputs and items. -/
import Derived.Test.YtjfkkdkmpnpmpaaTxCloneS
namespace Go.Proofs.Ytjfkkdkmpnpmpaa
set_option linter.unusedVariables false
set_option linter.unusedSimpArgs false
open Go Go.RowKit
theorem eql_slice_nil {P : Program} (t e : TypeId) (a : Option Addr) (l c : Nat) (h : P.underlying t = some (.slice e)) {w : World} : (binOp .eql t (.slice a l c) (.slice none 0 0)).run P w = .ok (.bool a.isNone) w := by
  simp only [binOp]
  simp [run_equal_slice_nil w t e a l c h]

set_option maxRecDepth 100000 in
set_option maxHeartbeats 1000000 in
theorem sclIn_any (v : Value) (n : Nat) (cs : List Value) (w : World) (hr : Rd w 36 v n cs) (h1 : ∀ u ∈ cs, u.oneCell' = true) (hn : n * 96 ≤ 140737488355328) :
    Calls Try.prog 44 #[v] w fun e w' => ∃ v', e = .returned v' ∧ Keeps w w' ∧ Buf w' 36 v' n cs ∧ ∀ g, v'.ownBlock = some g → w.heap.size ≤ g := by
  have HR := Lib.hid hr
  obtain ⟨h0, a, cap, rfl, h2, h3, h4, -⟩ := hr
  cases a with
  | none =>
    obtain ⟨rfl, rfl⟩ := h4 rfl
    obtain rfl : cs = [] := List.eq_nil_of_length_eq_zero (by simpa using h0)
    have hnil : ∀ W, (binOp .eql 22 (.slice none 0 0) (.slice none 0 0)).run Try.prog W = .ok (.bool true) W := fun W => eql_slice_nil 22 42 none 0 0 Try.underlying22
    go_enter Try.func44, Try.ntmps44
    go_wp2
    go_ret
    exact ⟨_, rfl, Keeps.refl _, Buf.nil _ _, fun g hg => by simp [Value.ownBlock] at hg⟩
  | some ad =>
    clear h4
    obtain ⟨i0, z0, hi, hz0, hz1, hz2, hz3⟩ := info2_any in_info in_zero
    have HI := Lib.hid hi; have HZ0 := Lib.hid hz0; have HZ1 := Lib.hid hz1; have HZ2 := Lib.hid hz2
    clear hi hz0 hz1 hz2
    have hnil : ∀ W, (binOp .eql 22 (.slice (some ad) n cap) (.slice none 0 0)).run Try.prog W = .ok (.bool false) W := fun W => eql_slice_nil 22 42 (some ad) n cap Try.underlying22
    go_enter Try.func44, Try.ntmps44
    go_wp2_with (at_builtin; refine wpList_append_buf rfl (.tmp 5) (.tmp 6) 22 22 rfl 42 i0 z0 36 96 Try.underlying22 HI.out HZ0.out HZ1.out HZ2.out hz3 (by decide) (.slice (some ⟨w.heap.size, 0, none⟩) 0 0) 0 [] rfl (Buf.made _) _ rfl n cs ((HR.out.keeps (keeps_alloc (Keeps.refl _) _)).src Try.underlying22 h1) (by unfold maxLen at *; omega) (by omega) ?_; intro v9 w9 hb9 hc9 hs9 hn9; have HB9 := Lib.hid hb9; have HC9 := Lib.hid hc9; have HS9 := Lib.hid hs9; clear hb9 hc9 hs9 hn9)
    go_ret
    have hk : Keeps w w9 := by
      have k1 := keeps_alloc (Keeps.refl w) (.cells #[] 42)
      exact Below.trans k1 (HC9.out.below k1.size (fun k hk e => by simp [Value.ownBlock] at e; omega))
    refine ⟨v9, rfl, hk, by have := HB9.out; simpa using this, fun g hg => ?_⟩
    rcases HS9.out with e | ⟨g', e1, e2⟩
    · rw [e] at hg; simp [Value.ownBlock] at hg; omega
    · rw [hg] at e1; cases e1
      have := (keeps_alloc (Keeps.refl w) (.cells #[] 42)).size
      omega
set_option maxRecDepth 100000 in
set_option maxHeartbeats 1000000 in
theorem sclOut_any (v : Value) (n : Nat) (cs : List Value) (w : World) (hr : Rd w 2 v n cs) (h1 : ∀ u ∈ cs, u.oneCell' = true) (hn : n * 32 ≤ 140737488355328) :
    Calls Try.prog 45 #[v] w fun e w' => ∃ v', e = .returned v' ∧ Keeps w w' ∧ Buf w' 2 v' n cs ∧ ∀ g, v'.ownBlock = some g → w.heap.size ≤ g := by
  have HR := Lib.hid hr
  obtain ⟨h0, a, cap, rfl, h2, h3, h4, -⟩ := hr
  cases a with
  | none =>
    obtain ⟨rfl, rfl⟩ := h4 rfl
    obtain rfl : cs = [] := List.eq_nil_of_length_eq_zero (by simpa using h0)
    have hnil : ∀ W, (binOp .eql 23 (.slice none 0 0) (.slice none 0 0)).run Try.prog W = .ok (.bool true) W := fun W => eql_slice_nil 23 44 none 0 0 Try.underlying23
    go_enter Try.func45, Try.ntmps45
    go_wp2
    go_ret
    exact ⟨_, rfl, Keeps.refl _, Buf.nil _ _, fun g hg => by simp [Value.ownBlock] at hg⟩
  | some ad =>
    clear h4
    obtain ⟨i0, z0, hi, hz0, hz1, hz2, hz3⟩ := info2_any out_info out_zero
    have HI := Lib.hid hi; have HZ0 := Lib.hid hz0; have HZ1 := Lib.hid hz1; have HZ2 := Lib.hid hz2
    clear hi hz0 hz1 hz2
    have hnil : ∀ W, (binOp .eql 23 (.slice (some ad) n cap) (.slice none 0 0)).run Try.prog W = .ok (.bool false) W := fun W => eql_slice_nil 23 44 (some ad) n cap Try.underlying23
    go_enter Try.func45, Try.ntmps45
    go_wp2_with (at_builtin; refine wpList_append_buf rfl (.tmp 5) (.tmp 6) 23 23 rfl 44 i0 z0 2 32 Try.underlying23 HI.out HZ0.out HZ1.out HZ2.out hz3 (by decide) (.slice (some ⟨w.heap.size, 0, none⟩) 0 0) 0 [] rfl (Buf.made _) _ rfl n cs ((HR.out.keeps (keeps_alloc (Keeps.refl _) _)).src Try.underlying23 h1) (by unfold maxLen at *; omega) (by omega) ?_; intro v9 w9 hb9 hc9 hs9 hn9; have HB9 := Lib.hid hb9; have HC9 := Lib.hid hc9; have HS9 := Lib.hid hs9; clear hb9 hc9 hs9 hn9)
    go_ret
    have hk : Keeps w w9 := by
      have k1 := keeps_alloc (Keeps.refl w) (.cells #[] 44)
      exact Below.trans k1 (HC9.out.below k1.size (fun k hk e => by simp [Value.ownBlock] at e; omega))
    refine ⟨v9, rfl, hk, by have := HB9.out; simpa using this, fun g hg => ?_⟩
    rcases HS9.out with e | ⟨g', e1, e2⟩
    · rw [e] at hg; simp [Value.ownBlock] at hg; omega
    · rw [hg] at e1; cases e1
      have := (keeps_alloc (Keeps.refl w) (.cells #[] 44)).size
      omega
set_option maxRecDepth 100000 in
set_option maxHeartbeats 1000000 in
theorem sclB_any (v : Value) (n : Nat) (cs : List Value) (w : World) (hr : Rd w 1 v n cs) (h1 : ∀ u ∈ cs, u.oneCell' = true) (hn : n * 24 ≤ 140737488355328) :
    Calls Try.prog 47 #[v] w fun e w' => ∃ v', e = .returned v' ∧ Keeps w w' ∧ Buf w' 1 v' n cs ∧ ∀ g, v'.ownBlock = some g → w.heap.size ≤ g := by
  have HR := Lib.hid hr
  obtain ⟨h0, a, cap, rfl, h2, h3, h4, -⟩ := hr
  cases a with
  | none =>
    obtain ⟨rfl, rfl⟩ := h4 rfl
    obtain rfl : cs = [] := List.eq_nil_of_length_eq_zero (by simpa using h0)
    have hnil : ∀ W, (binOp .eql 40 (.slice none 0 0) (.slice none 0 0)).run Try.prog W = .ok (.bool true) W := fun W => eql_slice_nil 40 39 none 0 0 Try.underlying40
    go_enter Try.func47, Try.ntmps47
    go_wp2
    go_ret
    exact ⟨_, rfl, Keeps.refl _, Buf.nil _ _, fun g hg => by simp [Value.ownBlock] at hg⟩
  | some ad =>
    clear h4
    obtain ⟨i0, hi, hz0, hz1, hz2⟩ := info_any sl_info; obtain ⟨z0, hz9⟩ : ∃ z0, z0 = Value.slice none 0 0 := ⟨_, rfl⟩; rw [← hz9] at hz0; have hz3 : z0.cells.size = 1 := by rw [hz9]; rfl
    have HI := Lib.hid hi; have HZ0 := Lib.hid hz0; have HZ1 := Lib.hid hz1; have HZ2 := Lib.hid hz2
    clear hi hz0 hz1 hz2
    have hnil : ∀ W, (binOp .eql 40 (.slice (some ad) n cap) (.slice none 0 0)).run Try.prog W = .ok (.bool false) W := fun W => eql_slice_nil 40 39 (some ad) n cap Try.underlying40
    go_enter Try.func47, Try.ntmps47
    go_wp2_with (at_builtin; refine wpList_append_buf rfl (.tmp 5) (.tmp 6) 40 40 rfl 39 i0 z0 1 24 Try.underlying40 HI.out HZ0.out HZ1.out HZ2.out hz3 (by decide) (.slice (some ⟨w.heap.size, 0, none⟩) 0 0) 0 [] rfl (Buf.made _) _ rfl n cs ((HR.out.keeps (keeps_alloc (Keeps.refl _) _)).src Try.underlying40 h1) (by unfold maxLen at *; omega) (by omega) ?_; intro v9 w9 hb9 hc9 hs9 hn9; have HB9 := Lib.hid hb9; have HC9 := Lib.hid hc9; have HS9 := Lib.hid hs9; clear hb9 hc9 hs9 hn9)
    go_ret
    have hk : Keeps w w9 := by
      have k1 := keeps_alloc (Keeps.refl w) (.cells #[] 39)
      exact Below.trans k1 (HC9.out.below k1.size (fun k hk e => by simp [Value.ownBlock] at e; omega))
    refine ⟨v9, rfl, hk, by have := HB9.out; simpa using this, fun g hg => ?_⟩
    rcases HS9.out with e | ⟨g', e1, e2⟩
    · rw [e] at hg; simp [Value.ownBlock] at hg; omega
    · rw [hg] at e1; cases e1
      have := (keeps_alloc (Keeps.refl w) (.cells #[] 39)).size
      omega
end Go.Proofs.Ytjfkkdkmpnpmpaa
