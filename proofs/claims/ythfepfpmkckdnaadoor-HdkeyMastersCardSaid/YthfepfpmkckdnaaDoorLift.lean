/- From what a row says of an argument to what the walks ask: a slice of bytes, a slice of ints. -/
import Derived.Test.YthfepfpmkckdnaaDoorBuf
import Derived.Test.YthfepfpmkckdnaaDoorRows
import Derived.ProofKit
import Derived.OpenShut
namespace Go.Proofs.YthfepfpmkckdnaaDoor
set_option linter.unusedVariables false
set_option linter.unusedSimpArgs false
open Go Go.RowKit Go.ChangeShapes Go.WideShapes Go.ChangeAt

theorem own : ownKnob Tryd.prog.godebug = none := by kernel_rfl
theorem laidOut : laidOutB Tryd.prog = true := by kernel_rfl
theorem cellsU8 : Tryd.prog.cellsOf 5 = 1 := by kernel_rfl
theorem cellsI : Tryd.prog.cellsOf 3 = 1 := by kernel_rfl
theorem rd_arg {k : IntKind} {W : World} {a : Addr} {len cap : Nat} {zs : List Int} {p : List MemPlace} (hl : len ≤ cap) (hm : cap ≤ maxLen) (hz : zs.length = cap) (hcell : ∀ i, i < zs.length → W.cell? (a.add i) = some (.int k (zs.getD i 0)))
    (hfz : W.noneFrozen p) (hp : ∀ x ∈ MemPlace.row a zs.length, x ∈ p) : Rd W 1 (.slice (some a) len cap) len ((zs.take len).map (Value.int k)) := by
  refine ⟨by simp; omega, some a, cap, rfl, hl, hm, fun e => (by cases e), fun ad e hn => ?_⟩
  cases e
  obtain ⟨b, off, spot⟩ := a
  have hspot : spot = none := by simpa [Addr.add] using World.cell?_spot (hcell 0 (by omega))
  subst hspot
  have hadd : ∀ i, (⟨b, off, none⟩ : Addr).add i = ⟨b, off + i, none⟩ := fun i => by unfold Addr.add; split <;> simp_all
  have hb : b < W.heap.size := by
    have := hcell 0 (by omega)
    rw [hadd] at this
    exact World.block_lt_of_cell? W _ this
  refine ⟨b, off, rfl, hb, fun j v hv => ?_⟩
  have hj : j < len := by
    have := (List.getElem?_eq_some_iff.1 hv).1
    simp at this; omega
  have hc := hcell j (by omega)
  rw [hadd] at hc
  refine ⟨?_, hfz b (off + j) (hp _ (MemPlace.mem_row.2 ⟨j, by omega, rfl⟩))⟩
  rw [hc]
  have hj2 : j < zs.length := by omega
  simp [hj, hj2] at hv
  rw [← hv]
  simp [List.getD, hj2]
theorem rd_nil (W : World) (k : IntKind) : Rd W 1 (.slice none 0 0) 0 (([] : List Int).map (Value.int k)) :=
  ⟨by simp, none, 0, rfl, Nat.le_refl _, Nat.zero_le _, fun _ => ⟨rfl, rfl⟩, fun ad e _ => (by cases e)⟩
set_option maxRecDepth 100000 in
/-- a slice of bytes that came in -/
theorem bytes_arg {H : Type} {enc : TypeId × Value → H} {W : World} {base : Nat} {v : Value} {d : DataW H} {p ps : List MemPlace} (hv : Value.okWide Tryd.prog W .any base 22 v) (h : DataW.Trod enc Tryd.prog W 0 (fun _ => true) true 22 v d p)
    (hfz : W.noneFrozen ps) (hp : ∀ x ∈ p, x ∈ ps) : ∃ a len cap, ∃ zs : List Int, v = .slice a len cap ∧ Rd W 1 v len (zs.map (Value.int .u8)) ∧ ∀ x ∈ zs, 0 ≤ x ∧ x < 256 := by
  obtain ⟨a0, len, cap, rfl⟩ := okWide_slice Tryd.underlying22 hv
  obtain ⟨fuel, hf⟩ := h
  rcases open_ints Tryd.underlying22 Tryd.underlying5 cellsU8 hf with ⟨hcs, hx⟩ | ⟨a, len', cap', zs, hcs, _, hl, hm, hz, hx, hcell, hwz⟩
  · simp [Value.cells] at hcs
    obtain ⟨rfl, rfl, rfl⟩ := hcs
    exact ⟨none, 0, 0, [], rfl, rd_nil W .u8, fun x hx => by simp at hx⟩
  · simp [Value.cells] at hcs
    obtain ⟨rfl, rfl, rfl⟩ := hcs
    simp only [Prod.mk.injEq] at hx
    obtain ⟨_, rfl⟩ := hx
    simp only [if_true] at hz
    refine ⟨some a, len, cap, zs.take len, rfl, rd_arg hl hm hz hcell hfz hp, fun x hx => ?_⟩
    have := bounds_u8 (hwz x (List.mem_of_mem_take hx))
    omega
end Go.Proofs.YthfepfpmkckdnaaDoor
