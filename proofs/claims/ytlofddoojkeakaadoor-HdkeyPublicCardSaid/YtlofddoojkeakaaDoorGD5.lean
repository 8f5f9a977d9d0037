/- The reference's SHA-256 (strongboxref02.Sum256) is SHA-256. -/
import Derived.Test.YtlofddoojkeakaaDoorGD2
import Derived.Test.YtlofddoojkeakaaDoorGD3
namespace Go.Proofs.YtlofddoojkeakaaDoor
set_option linter.unusedVariables false
set_option linter.unusedSimpArgs false
open Go Go.RowKit

/-- what the reference's Sum256 holds at a block's beginning -/
structure RefAt (w W : World) (p2 p3 p4 gm om : Nat) (M : List Int) (s : St) : Prop where
  keeps : Keeps w W
  res : Row W p2 0 (List.replicate 32 (Value.int .u8 0))
  key : Row W p3 0 (k256.map (Value.int .u32))
  st : Row W p4 0 (s.list.map (Value.int .u32))
  msg : Row W gm om (M.map (Value.int .u8))
  new : w.heap.size ≤ p4 ∧ p2 ≠ p4 ∧ p3 ≠ p4 ∧ gm ≠ p4
theorem RefAt.step {w W W' : World} {p2 p3 p4 gm om : Nat} {M : List Int} {s : St} (h : RefAt w W p2 p3 p4 gm om M s) (hk : Keeps W W') : RefAt w W' p2 p3 p4 gm om M s :=
  ⟨h.keeps.trans hk, h.res.keeps hk, h.key.keeps hk, h.st.keeps hk, h.msg.keeps hk, h.new⟩
theorem RefAt.chg {w W W' : World} {p2 p3 p4 gm om : Nat} {M : List Int} {s s' : St} (h : RefAt w W p2 p3 p4 gm om M s) (hc : Chg (· = p4) W W') (hr : Row W' p4 0 (s'.list.map (Value.int .u32))) : RefAt w W' p2 p3 p4 gm om M s' :=
  ⟨keeps_chg h.keeps hc h.new.1, h.res.chg hc h.new.2.1, h.key.chg hc h.new.2.2.1, hr, h.msg.chg hc h.new.2.2.2, h.new⟩
theorem RefAt.other {w W W' : World} {p2 p3 p4 gm om q : Nat} {M : List Int} {s : St} (h : RefAt w W p2 p3 p4 gm om M s) (hc : Chg (· = q) W W') (hq : w.heap.size ≤ q) (h2 : p2 ≠ q) (h3 : p3 ≠ q) (h4 : p4 ≠ q) (hg : gm ≠ q) : RefAt w W' p2 p3 p4 gm om M s :=
  ⟨keeps_chg h.keeps hc hq, h.res.chg hc h2, h.key.chg hc h3, h.st.chg hc h4, h.msg.chg hc hg, h.new⟩
theorem sz_st8u : (Tryd.prog.info? 115).map (·.size) = some 8 := by kernel_rfl
end Go.Proofs.YtlofddoojkeakaaDoor
