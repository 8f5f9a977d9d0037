/- The reference's SHA-256 (strongboxref02.Sum256) is SHA-256. -/
import Derived.Test.YthfepfpmkckdnaaDoorFill
import Derived.Test.YthfepfpmkckdnaaDoorRefSha
namespace Go.Proofs.YthfepfpmkckdnaaDoor
set_option linter.unusedVariables false
set_option linter.unusedSimpArgs false
open Go Go.RowKit

theorem fillL_tail (n : Nat) : fillL 64 8 n false = tail64 n := by
  have h1 : fillN 64 8 n = fill64 n := rfl
  have h2 : (lowB ((n : Int) * 8) 8).reverse = be8 ((n : Int) * 8) := by simp [lowB, be8]
  simp only [fillL, tail64, h1, h2, List.cons_append]
  rfl
/-- what the reference's Sum256 holds at a block's beginning -/
structure RefAt (w W : World) (p2 p3 p4 gm om : Nat) (M : List Int) (s : St) : Prop where
  keeps : Keeps w W
  res : Row W p2 0 (List.replicate 32 (Value.int .u8 0))
  key : Row W p3 0 (k256.map (Value.int .u32))
  st : Row W p4 0 (s.list.map (Value.int .u32))
  msg : Row W gm om (M.map (Value.int .u8))
  new : w.heap.size ≤ p4 ∧ p2 ≠ p4 ∧ p3 ≠ p4 ∧ gm ≠ p4
theorem RefAt.step {w W W' : World} {p2 p3 p4 gm om : Nat} {M : List Int} {s : St} (h : RefAt w W p2 p3 p4 gm om M s) (hk : Keeps W W') : RefAt w W' p2 p3 p4 gm om M s :=
  ⟨h.keeps.trans hk, h.res.keeps hk, h.key.keeps hk, h.st.keeps hk, h.msg.keeps hk, h.new⟩
theorem RefAt.chg {w W W' : World} {p2 p3 p4 gm om : Nat} {M : List Int} {s s' : St} (h : RefAt w W p2 p3 p4 gm om M s) (hc : Chg (· = p4) W W') (hr : Row W' p4 0 (s'.list.map (Value.int .u32))) : RefAt w W' p2 p3 p4 gm om M s' :=
  ⟨keeps_chg h.keeps hc h.new.1, h.res.chg hc h.new.2.1, h.key.chg hc h.new.2.2.1, hr, h.msg.chg hc h.new.2.2.2, h.new⟩
theorem RefAt.other {w W W' : World} {p2 p3 p4 gm om q : Nat} {M : List Int} {s : St} (h : RefAt w W p2 p3 p4 gm om M s) (hc : Chg (· = q) W W') (hq : w.heap.size ≤ q) (h2 : p2 ≠ q) (h3 : p3 ≠ q) (h4 : p4 ≠ q) (hg : gm ≠ q) : RefAt w W' p2 p3 p4 gm om M s :=
  ⟨keeps_chg h.keeps hc hq, h.res.chg hc h2, h.key.chg hc h3, h.st.chg hc h4, h.msg.chg hc hg, h.new⟩
theorem Row.eight0 {w : World} {b : Nat} {s : St} (h : Row w b 0 (s.list.map (Value.int .u32))) : w.cell? ⟨b, 0, none⟩ = some (.int .u32 s.a) ∧ w.cell? ⟨b, 1, none⟩ = some (.int .u32 s.b) ∧ w.cell? ⟨b, 2, none⟩ = some (.int .u32 s.c) ∧ w.cell? ⟨b, 3, none⟩ = some (.int .u32 s.d)
    ∧ w.cell? ⟨b, 4, none⟩ = some (.int .u32 s.e) ∧ w.cell? ⟨b, 5, none⟩ = some (.int .u32 s.f) ∧ w.cell? ⟨b, 6, none⟩ = some (.int .u32 s.g) ∧ w.cell? ⟨b, 7, none⟩ = some (.int .u32 s.h) := by
  have := h.eight
  simpa using this
theorem row_round {w : World} {b : Nat} {s : St} (k xx x y : Int) (h : Row w b 0 [.int .u32 y, .int .u32 s.a, .int .u32 s.b, .int .u32 s.c, .int .u32 x, .int .u32 s.e, .int .u32 s.f, .int .u32 s.g])
    (hx : x = (s.round k xx).e) (hy : y = (s.round k xx).a) : Row w b 0 ((s.round k xx).list.map (Value.int .u32)) := by
  subst hx hy; exact h
theorem sz_st8u : (Tryd.prog.info? 74).map (·.size) = some 8 := by kernel_rfl
end Go.Proofs.YthfepfpmkckdnaaDoor
