/- The reference's Copies: a list of slices of one's own. -/
import Derived.Test.YtjfkkdkmpnpmpaaTxRef1
namespace Go.Proofs.Ytjfkkdkmpnpmpaa
set_option linter.unusedVariables false
set_option linter.unusedSimpArgs false
open Go Go.RowKit

theorem sl_info : (Try.prog.info? 39).map (fun i => (i.zero, i.size, i.bytes)) = some (some (.slice none 0 0), 1, 24) := by kernel_rfl
theorem info_any {t : TypeId} {z : Value} {s b : Nat} (h : (Try.prog.info? t).map (fun i => (i.zero, i.size, i.bytes)) = some (some z, s, b)) : ∃ i, Try.prog.info? t = some i ∧ i.zero = some z ∧ i.size = s ∧ i.bytes = b := by
  cases hq : Try.prog.info? t with
  | none => simp [hq] at h
  | some i => simp [hq] at h; exact ⟨i, rfl, h.1, h.2.1, h.2.2⟩
theorem RB.one {S : Nat → Prop} {w : World} {v : Value} {l : List Int} (h : RB S w v l) : v.oneCell' = true := by
  obtain ⟨a, cap, rfl, _⟩ := h.any; rfl
theorem Own.rb {w W : World} {v : Value} {l : List Int} (h : Own w W v l.length l) (hb : Bytes l) (hl : l.length ≤ 140737488355328) : RB (fun g => w.heap.size ≤ g ∧ g < W.heap.size) W v l :=
  ⟨h.rd, hb, hl, fun g e => ⟨h.new g e, h.buf.lt e⟩⟩
/-- since w a list of slices has been made, of whose spare room may be used -/
structure OwnL (w W : World) (v : Value) (ls : List (List Int)) (vs : List Value) : Prop where
  keeps : Keeps w W
  buf : Buf W 1 v ls.length vs
  new : ∀ g, v.ownBlock = some g → w.heap.size ≤ g
  each : ∀ (i : Nat) (u : Value) (l : List Int), vs[i]? = some u → ls[i]? = some l → RB (fun g => w.heap.size ≤ g ∧ g < W.heap.size ∧ v.ownBlock ≠ some g) W u l
  one : ∀ u ∈ vs, u.oneCell' = true
theorem OwnL.nil (w : World) : OwnL w w (.slice none 0 0) [] [] := ⟨Keeps.refl _, Buf.nil _ _, fun g h => by simp [Value.ownBlock] at h, fun i u l h => by simp at h, fun u h => by simp at h⟩
theorem OwnL.step {w W W' : World} {v : Value} {ls : List (List Int)} {vs : List Value} (h : OwnL w W v ls vs) (hk : Keeps W W') : OwnL w W' v ls vs :=
  ⟨h.keeps.trans hk, h.buf.keeps hk, h.new, fun i u l hu hl => ((h.each i u l hu hl).keeps hk).mono (fun g hg => ⟨hg.1, Nat.lt_of_lt_of_le hg.2.1 hk.size, hg.2.2⟩), h.one⟩
theorem OwnL.any {w W : World} {v : Value} {ls : List (List Int)} {vs : List Value} (h : OwnL w W v ls vs) : ∃ a cap, v = .slice a ls.length cap := by
  obtain ⟨a, cap, h1, _⟩ := h.buf.any
  exact ⟨a, cap, h1⟩
/-- behind an append of one more -/
theorem OwnL.after {w W W1 w2 : World} {v v' u : Value} {ls : List (List Int)} {vs : List Value} {l : List Int} (h : OwnL w W v ls vs) (hk : Keeps W W1) (hu : RB (fun g => W.heap.size ≤ g ∧ g < W1.heap.size) W1 u l)
    (hb : Buf w2 1 v' (ls.length + 1) (vs ++ [u])) (hc : Chg (fun k => v.ownBlock = some k) W1 w2) (hs : SameOrNew W1 v v') : OwnL w w2 v' (ls ++ [l]) (vs ++ [u]) := by
  have hk1 := h.keeps.trans hk
  have hv' : ∀ g, g < W1.heap.size → v.ownBlock ≠ some g → v'.ownBlock ≠ some g := fun g h1 h2 => by
    rcases hs with e | ⟨g', e1, e2⟩
    · rw [e]; exact h2
    · rw [e1]; intro e; cases e; omega
  have hvl : ∀ g, v.ownBlock = some g → g < W.heap.size := fun g e => h.buf.lt e
  have hw := hk.size
  refine ⟨Below.trans hk1 (hc.below hk1.size (fun k hk2 e => by have := h.new k e; omega)), by rw [List.length_append]; exact hb, ?_, ?_, ?_⟩
  · intro g hg
    rcases hs with e | ⟨g', e1, e2⟩
    · exact h.new g (by rw [← e]; exact hg)
    · rw [hg] at e1; cases e1; exact Nat.le_trans hk1.size e2
  · intro i x l' hx hl'
    have hlen : vs.length = ls.length := by have := h.buf.1; omega
    by_cases hi : i < vs.length
    · rw [List.getElem?_append_left hi] at hx
      rw [List.getElem?_append_left (by omega)] at hl'
      refine (((h.each i x l' hx hl').keeps hk).chg hc (fun g hg => hg.2.2)).mono (fun g hg => ⟨hg.1, by have := hc.size; omega, hv' g (by omega) hg.2.2⟩)
    · have hi' : i = vs.length := by
        have := (List.getElem?_eq_some_iff.1 hx).1
        simp at this; omega
      subst hi'
      rw [List.getElem?_append_right (Nat.le_refl _)] at hx
      rw [hlen, List.getElem?_append_right (Nat.le_refl _)] at hl'
      simp at hx hl'
      subst hx hl'
      refine (hu.chg hc (fun g hg e => by have := hvl g e; omega)).mono (fun g hg => ⟨by have := h.keeps.size; omega, by have := hc.size; omega, hv' g hg.2 (fun e => by have := hvl g e; omega)⟩)
  · intro x hx
    rcases List.mem_append.1 hx with hx | hx
    · exact h.one x hx
    · simp at hx; subst hx; exact hu.one
theorem ownl_append1 {w W W1 : World} {ops : Array Oper} {rest : List Oper} {o : Oper} {a : Act} {Q : Exit → Act → World → Prop} (hgd : o.guard = none) (s x : Operand)
    (ho : o.op = .call { callee := .builtin .append, args := #[s, x], argTypes := #[40, 40] }) {v u : Value} {ls : List (List Int)} {vs : List Value} {l : List Int} (hO : OwnL w W v ls vs) (hk : Keeps W W1) (hu : RB (fun g => W.heap.size ≤ g ∧ g < W1.heap.size) W1 u l) (hv : a.eval s = v)
    (c : Nat) (T : TypeId) (hx : a.eval x = .slice (some ⟨W1.heap.size, 0, none⟩) 1 c) (hn : (ls.length + 1) * 24 ≤ 140737488355328)
    (h : ∀ v' w', OwnL w w' v' (ls ++ [l]) (vs ++ [u]) → wpList Try.prog ops Q rest (a.put o.dst v') w') : wpList Try.prog ops Q (o :: rest) a (W1.alloc (.cells #[u] T)) := by
  obtain ⟨i0, hi, hz0, hz1, hz2⟩ := info_any sl_info
  have hk2 : Keeps W1 (W1.alloc (.cells #[u] T)) := (Keeps.refl _).alloc (Nat.le_refl _) _
  refine wpList_append_buf hgd s x 40 40 ho 39 i0 (.slice none 0 0) 1 24 Try.underlying40 hi hz0 hz1 hz2 rfl (by decide) v ls.length vs hv (hO.buf.keeps (hk.trans hk2)) _ hx 1 [u]
    (Src.row Try.underlying40 (by simp) (Row.new [u] _ T rfl) (fun y hy => by simp at hy; subst hy; exact hu.one)) (by unfold maxLen; omega) hn
    (fun v' w' hb hc hs' _ => h v' w' (hO.after (hk.trans hk2) ((hu.keeps hk2).mono (fun g hg => ⟨hg.1, by have := hk2.size; omega⟩)) hb hc hs'))
theorem OwnL.rl {w W : World} {v : Value} {ls : List (List Int)} {vs : List Value} (h : OwnL w W v ls vs) (hl : ls.length * 24 ≤ 140737488355328) :
    RL (fun g => w.heap.size ≤ g ∧ g < W.heap.size ∧ v.ownBlock ≠ some g) (fun g => w.heap.size ≤ g ∧ g < W.heap.size ∧ v.ownBlock = some g) W v ls vs :=
  ⟨h.buf.rd, h.each, hl, fun g e => ⟨h.new g e, h.buf.lt e, e⟩⟩
set_option maxRecDepth 100000 in
set_option maxHeartbeats 1000000 in
theorem rcopies_any (S T : Nat → Prop) (v : Value) (ls : List (List Int)) (w : World) (hr : RLL S T w v ls) :
    Calls Try.prog 49 #[v] w fun e w' => ∃ v' vs, e = .returned v' ∧ OwnL w w' v' ls vs := by
  have hsm : ls.length * 24 ≤ 140737488355328 := hr.elim fun _ h => h.small
  obtain ⟨xa, xc, rfl, _, hcm, hnil⟩ := hr.any
  have HR := Lib.hid hr
  clear hr
  go_enter Try.func49, Try.ntmps49
  go_wp2
  go_loopw [3, 4] (fun vv c wr => ∃ i : Nat, i ≤ ls.length ∧ c = .int .i64 i ∧ ∃ vs, OwnL w wr vv (ls.take i) vs) (fun _ c _ => (ls.length - intOf c).toNat)
  case atStart => exact ⟨0, by omega, rfl, [], OwnL.nil w⟩
  case round =>
    obtain ⟨i, hi, rfl, vs, hw1⟩ := hrel
    by_cases hlt : i < ls.length
    · obtain ⟨g, off, u, rfl, hg, hcell, hrb⟩ := (HR.out.keeps hw1.keeps).at i hlt
      obtain ⟨ua, uc, hue, _⟩ := hrb.any
      have hl0 := hrb.small
      have hbb := hrb.bytes
      have hrd := hrb.rd
      have HRD := Lib.hid hrd; have HBB := Lib.hid hbb
      have HW := Lib.hid hw1
      obtain ⟨a1, c1, hvv⟩ := hw1.any
      have hil : (ls.take i).length = i := by simp; omega
      have htk : ls.take i ++ [ls.getD i []] = ls.take (i + 1) := by
        rw [List.take_succ_eq_append_getElem hlt]; simp [List.getD, hlt]
      rw [hil] at hvv
      subst hvv hue
      have HTK := Lib.hid htk
      clear hrb hrd hbb hw1 htk
      generalize ls.getD i [] = li at *
      go_wp2_with (first | (go_at_call 48; refine (rcopy_any _ li hl0 _ HRD.out).mono ?_; rintro e W2 ⟨v2, rfl, hO2⟩; obtain ⟨a2', c2', rfl⟩ := hO2.any; have HO2 := Lib.hid hO2; clear hO2) | (refine ownl_append1 rfl _ _ rfl HW.out HO2.out.keeps (HO2.out.rb HBB.out hl0) rfl 1 _ rfl (by rw [hil]; omega) ?_; intro v3 w3 hO3; obtain ⟨a3', c3', rfl⟩ := hO3.any; have HO3 := Lib.hid hO3; clear hO3))
      go_roundw
      case rel => exact ⟨i + 1, by omega, by go_num, _, by have h9 := HO3.out; rw [List.length_append, hil] at h9; rw [← HTK.out]; exact h9⟩
      case measure => simp [intOf]; omega
    · obtain rfl : i = ls.length := by omega
      rw [List.take_length] at hw1
      have HW := Lib.hid hw1
      obtain ⟨a1, c1, rfl⟩ := hw1.any
      clear hw1
      go_wp2
      go_ret
      exact ⟨_, _, rfl, HW.out⟩
end Go.Proofs.Ytjfkkdkmpnpmpaa
