/- amount.Add, both Valid; a slice of numbers of one's own; a map of places that were seen; what Check says, in plain Lean. -/
import Derived.Test.YtcodpdpeklammaaGD1
import Derived.Test.YtcodpdpeklammaaGD0
import Derived.Test.YtcodpdpeklammaaGD3
namespace Go.Proofs.Ytcodpdpeklammaa
set_option linter.unusedVariables false
set_option linter.unusedSimpArgs false
open Go Go.RowKit

def validB (v : Int) : Bool := decide (0 ≤ v) && decide (v ≤ 2100000000000000)
theorem validB_true {v : Int} (h0 : 0 ≤ v) (h1 : v ≤ 2100000000000000) : validB v = true := by unfold validB; simp; omega
theorem validB_of {v : Int} (h : validB v = true) : 0 ≤ v ∧ v ≤ 2100000000000000 := by unfold validB at h; simp at h; omega
theorem validB_not {v : Int} (h : validB v = false) : v < 0 ∨ 2100000000000000 < v := by unfold validB at h; simp at h; omega
theorem valid_any (v : Int) (w : World) : Calls Try.prog 69 #[.int .i64 v] w fun e w' => e = .returned (.bool (validB v)) ∧ w = w' := by
  go_enter Try.func69, Try.ntmps69
  go_wp2
  all_goals go_ret
  all_goals exact ⟨ret_bool (by unfold validB; simp; omega), rfl⟩

def addGo (s : Int) : List Int → Int × Int
  | [] => (s, 0)
  | v :: r => if validB v && validB (s + v) then addGo (s + v) r else (0, 6)
theorem addGo_cons (s : Int) (zs : List Int) (k : Nat) (h : k < zs.length) : addGo s (zs.drop k) = if validB (zs.getD k 0) && validB (s + zs.getD k 0) then addGo (s + zs.getD k 0) (zs.drop (k+1)) else (0, 6) := by
  have e : zs.getD k 0 = zs[k] := by simp [h]
  rw [List.drop_eq_getElem_cons h, addGo, e]
theorem add_nil (w : World) (a : Option Addr) (cap : Nat) : Calls Try.prog 45 #[.slice a 0 cap] w fun e w' => e = .returned (.tuple #[.int .i64 0, .int .i64 0]) ∧ w = w' := by
  go_enter Try.func45, Try.ntmps45
  go_wp2
  refine wp_loop_once ?_
  go_wp2
  go_ret2
  exact ⟨rfl, rfl⟩

theorem add_row (w : World) (b off cap : Nat) (zs : List Int) (hc : IntsAt .i64 w b off zs) (hm : zs.length ≤ 9223372036854775807) :
    Calls Try.prog 45 #[.slice (some ⟨b, off, none⟩) zs.length cap] w fun e w' => e = .returned (.tuple #[.int .i64 (addGo 0 zs).1, .int .i64 (addGo 0 zs).2]) ∧ w = w' := by
  go_enter Try.func45, Try.ntmps45
  go_wp2
  go_loop [4, 6, 9] (fun s v i => ∃ (k : Nat) (sn : Int), k ≤ zs.length ∧ i = .int .i64 k ∧ s = .int .i64 sn ∧ 0 ≤ sn ∧ sn ≤ 2100000000000000 ∧ Hid (addGo 0 zs = addGo sn (zs.drop k))) (fun _ _ i => zs.length - (intOf i).toNat)
  case atStart => exact ⟨0, 0, Nat.zero_le _, rfl, rfl, by omega, by omega, Lib.hid (by simp)⟩
  case round =>
    obtain ⟨k, sn, hk, rfl, rfl, h0, h1, H⟩ := hrel
    by_cases hlt : k < zs.length
    · have hcell := hc k hlt
      have hstep := addGo_cons sn zs k hlt
      have HC := Lib.hid hc; clear hc
      generalize zs.getD k 0 = z at *
      by_cases hv : validB z = true
      · have hvz := validB_of hv
        by_cases hs : validB (sn + z) = true
        · have hvs := validB_of hs
          rw [hv, hs] at hstep
          have HS := Lib.hid hstep; clear hstep
          go_wp2_with (go_at_call 69; refine (valid_any _ _).mono ?_; rintro e w' ⟨rfl, rfl⟩)
          go_round
          case rel => exact ⟨k + 1, sn + z, by omega, by go_num, rfl, by omega, by omega, Lib.hid (H.out.trans HS.out)⟩
          case measure => simp [intOf]; omega
        · have hs' : validB (sn + z) = false := by simpa using hs
          rw [hv, hs'] at hstep
          have HS := Lib.hid hstep; clear hstep hs
          go_wp2_with (go_at_call 69; refine (valid_any _ _).mono ?_; rintro e w' ⟨rfl, rfl⟩)
          go_ret2
          exact ⟨by rw [H.out, HS.out]; rfl, rfl⟩
      · have hv' : validB z = false := by simpa using hv
        rw [hv'] at hstep
        have HS := Lib.hid hstep; clear hstep hv
        go_wp2_with (go_at_call 69; refine (valid_any _ _).mono ?_; rintro e w' ⟨rfl, rfl⟩)
        go_ret2
        exact ⟨by rw [H.out, HS.out]; rfl, rfl⟩
    · have he : zs.drop k = [] := List.drop_eq_nil_of_le (by omega)
      have HE := Lib.hid he; clear he
      have HC := Lib.hid hc; clear hc
      go_wp2
      go_ret2
      exact ⟨by rw [H.out, HE.out]; rfl, rfl⟩

theorem add_any (w : World) (a : Option Addr) (cap len : Nat) (zs : List Int) (hl : zs.length = len) (hc : SlInts .i64 w a zs) (hm : len ≤ 9223372036854775807) :
    Calls Try.prog 45 #[.slice a len cap] w fun e w' => e = .returned (.tuple #[.int .i64 (addGo 0 zs).1, .int .i64 (addGo 0 zs).2]) ∧ w = w' := by
  subst hl
  by_cases hz : zs = []
  · subst hz; exact add_nil w a cap
  · obtain ⟨b, off, rfl, _, h⟩ := hc hz
    exact add_row w b off cap zs h hm

theorem i64_info : (Try.prog.info? 2).map (fun i => (i.zero, i.size, i.bytes)) = some (some (.int .i64 0), 1, 8) := by kernel_rfl
/-- a slice of numbers of one's own -/
structure OwnZ (w W : World) (v : Value) (zs : List Int) : Prop where
  keeps : Keeps w W
  buf : Buf W 1 v zs.length (zs.map (Value.int .i64))
  new : ∀ g, v.ownBlock = some g → w.heap.size ≤ g
theorem OwnZ.nil (w : World) : OwnZ w w (.slice none 0 0) [] := ⟨Keeps.refl _, Buf.nil _ _, fun g h => by simp [Value.ownBlock] at h⟩
theorem OwnZ.step {w W W' : World} {v : Value} {zs : List Int} (h : OwnZ w W v zs) (hk : Keeps W W') : OwnZ w W' v zs := ⟨h.keeps.trans hk, h.buf.keeps hk, h.new⟩
theorem OwnZ.any {w W : World} {v : Value} {zs : List Int} (h : OwnZ w W v zs) : ∃ a cap, v = .slice a zs.length cap := by
  obtain ⟨a, cap, h1, _⟩ := h.buf.any
  exact ⟨a, cap, h1⟩
theorem OwnZ.ints {w W : World} {a : Option Addr} {n cap : Nat} {zs : List Int} (h : OwnZ w W (.slice a n cap) zs) : SlInts .i64 W a zs := by
  intro hz
  have hl : 0 < zs.length := by cases zs with | nil => exact absurd rfl hz | cons _ _ => simp
  obtain ⟨g, off, c, e, _, _, hg, hr⟩ := h.buf.form (.inr hl)
  cases e
  exact ⟨g, off, rfl, hg, fun i hi => hr.int i hi⟩
theorem ownz_append1 {w W W1 : World} {ops : Array Oper} {rest : List Oper} {o : Oper} {a : Act} {Q : Exit → Act → World → Prop} (hgd : o.guard = none) (s x : Operand)
    (ho : o.op = .call { callee := .builtin .append, args := #[s, x], argTypes := #[83, 83] }) {v : Value} {zs : List Int} (hO : OwnZ w W v zs) (hk : Keeps W W1) (hv : a.eval s = v)
    (c : Nat) (k : Int) (T : TypeId) (hx : a.eval x = .slice (some ⟨W1.heap.size, 0, none⟩) 1 c) (hn : (zs.length + 1) * 8 ≤ 140737488355328)
    (h : ∀ v' w', OwnZ w w' v' (zs ++ [k]) → wpList Try.prog ops Q rest (a.put o.dst v') w') : wpList Try.prog ops Q (o :: rest) a (W1.alloc (.cells #[.int .i64 k] T)) := by
  obtain ⟨i0, hi, hz0, hz1, hz2⟩ := info_any i64_info
  have hk2 : Keeps W1 (W1.alloc (.cells #[.int .i64 k] T)) := keeps_alloc (Keeps.refl _) _
  refine wpList_append_buf hgd s x 83 83 ho 2 i0 (.int .i64 0) 1 8 Try.underlying83 hi hz0 hz1 hz2 rfl (by decide) v zs.length _ hv (hO.buf.keeps (hk.trans hk2)) _ hx 1 [.int .i64 k]
    (Src.row Try.underlying83 (by simp) (Row.new [.int .i64 k] _ T rfl) (int_oneCell [k])) (by unfold maxLen; omega) hn (fun v' w' hb hc hs' _ => h v' w' ?_)
  have hk3 := (hO.keeps.trans hk).trans hk2
  refine ⟨Below.trans hk3 (hc.below hk3.size (fun q hq e => by have := hO.new q e; omega)), by rw [List.length_append, List.map_append]; exact hb, fun g hg => ?_⟩
  rcases hs' with e | ⟨g', e1, e2⟩
  · exact hO.new g (by rw [← e]; exact hg)
  · rw [hg] at e1; cases e1; exact Nat.le_trans hk3.size e2
/-- two inputs spend the same -/
def SamePt (a b : InD) : Prop := a.hash = b.hash ∧ a.index = b.index
def Dup (l : List InD) : Prop := ∃ (i k : Nat) (a b : InD), k < i ∧ l[i]? = some a ∧ l[k]? = some b ∧ SamePt a b
def BadSize (d : TxD) : Prop := ∃ x, d.ins[0]? = some x ∧ (x.script.length < 2 ∨ 100 < x.script.length)
def AnyEmpty (d : TxD) : Prop := ∃ x ∈ d.ins, isEmptyD x = true
/-- what Check says -/
def Chk (d : TxD) (r : Int) : Prop :=
  ((d.ins.length = 0 ∨ d.outs.length = 0) → r = 3) ∧ (¬ (d.ins.length = 0 ∨ d.outs.length = 0) →
    (100000 < (encB d false).length → r = 2) ∧ (¬ 100000 < (encB d false).length →
      ((addGo 0 (d.outs.map (·.value))).2 ≠ 0 → r = 6) ∧ ((addGo 0 (d.outs.map (·.value))).2 = 0 →
        (Dup d.ins → r = 18) ∧ (¬ Dup d.ins →
          (cbD d = true → (BadSize d → r = 3) ∧ (¬ BadSize d → r = 0)) ∧ (cbD d = false → (AnyEmpty d → r = 7) ∧ (¬ AnyEmpty d → r = 0))))))
theorem Chk.fn {d : TxD} {r s : Int} (h : Chk d r) (k : Chk d s) : r = s := by
  unfold Chk at h k
  by_cases a : d.ins.length = 0 ∨ d.outs.length = 0
  · rw [h.1 a, k.1 a]
  · have h := h.2 a; have k := k.2 a
    by_cases b : 100000 < (encB d false).length
    · rw [h.1 b, k.1 b]
    · have h := h.2 b; have k := k.2 b
      by_cases c : (addGo 0 (d.outs.map (·.value))).2 = 0
      · have h := h.2 c; have k := k.2 c
        by_cases e : Dup d.ins
        · rw [h.1 e, k.1 e]
        · have h := h.2 e; have k := k.2 e
          cases f : cbD d
          · have h := h.2 f; have k := k.2 f
            by_cases g : AnyEmpty d
            · rw [h.1 g, k.1 g]
            · rw [h.2 g, k.2 g]
          · have h := h.1 f; have k := k.1 f
            by_cases g : BadSize d
            · rw [h.1 g, k.1 g]
            · rw [h.2 g, k.2 g]
      · rw [h.1 c, k.1 c]
theorem addGo_two (s : Int) (l : List Int) : (addGo s l).2 = 0 ∨ (addGo s l).2 = 6 := by
  induction l generalizing s with
  | nil => exact .inl rfl
  | cons v r ih =>
    unfold addGo
    split
    · exact ih _
    · exact .inr rfl
end Go.Proofs.Ytcodpdpeklammaa
