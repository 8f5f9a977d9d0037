/- Small words used by all my walks: worlds up to draws (Qt), endings, hiding. No condition. -/
import Derived.WalkKit
import Derived.Deep.QuietTactic
import Derived.BigQuiet
import Derived.Lib.Hide
import Derived.WalkSpells
import Derived.WalkLawsBesides
import Derived.WalkSmall
namespace Go.Proofs.YthfepfpmkckdnaaDoor
set_option linter.unusedVariables false
set_option linter.unusedSimpArgs false
open Go Go.RowKit

theorem ret_bool {a b : Bool} (h : a = b) : Ending.returned (.bool a) = .returned (.bool b) := by rw [h]
theorem ret_int {k : IntKind} {a b : Int} (h : a = b) : Ending.returned (.int k a) = .returned (.int k b) := by rw [h]

/-- the world after some draws -/
def Qt (w w' : World) : Prop := ∃ n, w' = w.drewN n
theorem Qt.refl (w : World) : Qt w w := ⟨0, rfl⟩
theorem Qt.drewN (w : World) (n : Nat) : Qt w (w.drewN n) := ⟨n, rfl⟩
theorem Qt.trans {a b c : World} (h : Qt a b) (k : Qt b c) : Qt a c := by
  obtain ⟨n, rfl⟩ := h; obtain ⟨m, rfl⟩ := k; exact ⟨n + m, World.drewN_drewN _ _ _⟩
theorem Qt.below {a b : World} (h : Qt a b) (B : Nat) : Below B a b := by
  obtain ⟨n, rfl⟩ := h; exact ⟨rfl, rfl, rfl, Nat.le_refl _, fun _ _ => rfl⟩
theorem Qt.size {a b : World} (h : Qt a b) : b.heap.size = a.heap.size := by
  obtain ⟨n, rfl⟩ := h; rfl

theorem bcell {W w1 : World} {B : Nat} (hb : Below B W w1) : (∀ b o, b < B → w1.cell? ⟨b, o, none⟩ = W.cell? ⟨b, o, none⟩) ∧ (∀ b o, b < B → w1.frozen? ⟨b, o, none⟩ = W.frozen? ⟨b, o, none⟩) :=
  ⟨fun b o h => hb.cell (p := ⟨b, o, none⟩) h, fun b o h => hb.frozen (p := ⟨b, o, none⟩) h⟩

/-- everything that was there stays -/
abbrev Keeps (w w' : World) : Prop := Below w.heap.size w w'
theorem Keeps.refl (w : World) : Keeps w w := Below.refl _ _
theorem Keeps.trans {a b c : World} (h : Keeps a b) (k : Keeps b c) : Keeps a c := Below.trans h (Below.mono k h.size)
theorem Qt.keeps {a b : World} (h : Qt a b) : Keeps a b := h.below _

theorem tuple2 {k k' : IntKind} {a b c d : Int} (h : a = c) (h' : b = d) : Ending.returned (.tuple #[.int k a, .int k' b]) = .returned (.tuple #[.int k c, .int k' d]) := by rw [h, h']

/-- what an owned row of one-cell elements is, once it isn't nil -/
theorem owned_out {w : World} {base : Nat} {e : TypeId} {v : Value} {n : Nat} {xs : List Value} (h : w.ownsRow base e 1 v n xs) (hv : v ≠ .slice none 0 0) :
    ∃ g cap, v = .slice (some ⟨g, 0, none⟩) n cap ∧ base ≤ g ∧ g < w.heap.size ∧ n ≤ cap ∧ cap ≤ maxLen ∧ xs.length = n ∧ (∀ i u, xs[i]? = some u → w.cell? ⟨g, i, none⟩ = some u ∧ w.frozen? ⟨g, i, none⟩ = false) := by
  rcases h.2 with ⟨rfl, _⟩ | ⟨g, cap, cur, rfl, hb, hg, hnc, hcm, hcs, htake⟩
  · exact absurd rfl hv
  · refine ⟨g, cap, rfl, hb, (Array.getElem?_eq_some_iff.1 hg).1, hnc, hcm, by simpa using h.1, fun i u hu => ?_⟩
    have hc := h.cells (g := g) rfl i u hu
    have hadd : (⟨g, 0, none⟩ : Addr).add i = ⟨g, i, none⟩ := by unfold Addr.add; split <;> simp_all
    rw [hadd] at hc
    refine ⟨hc, ?_⟩
    simp [World.frozen?, hg]

/-- cells from 'off' on hold these integers -/
def IntsAt (k : IntKind) (w : World) (b off : Nat) (zs : List Int) : Prop := ∀ i, i < zs.length → w.cell? ⟨b, off + i, none⟩ = some (.int k (zs.getD i 0))
/-- a slice (its address) reads as these integers: nothing is said where there is none -/
def SlInts (k : IntKind) (w : World) (a : Option Addr) (zs : List Int) : Prop := zs ≠ [] → ∃ b off, a = some ⟨b, off, none⟩ ∧ b < w.heap.size ∧ IntsAt k w b off zs
theorem SlInts.keeps {k : IntKind} {w w' : World} {a : Option Addr} {zs : List Int} (h : SlInts k w a zs) (hb : Keeps w w') : SlInts k w' a zs := by
  intro hz
  obtain ⟨b, off, rfl, hlt, hc⟩ := h hz
  exact ⟨b, off, rfl, Nat.lt_of_lt_of_le hlt hb.size, fun i hi => (hb.cell (p := ⟨b, off + i, none⟩) hlt).trans (hc i hi)⟩
theorem SlInts.take {k : IntKind} {w : World} {a : Option Addr} {zs : List Int} (h : SlInts k w a zs) (n : Nat) : SlInts k w a (zs.take n) := by
  intro hz
  obtain ⟨b, off, rfl, hlt, hc⟩ := h (by intro e; subst e; simp at hz)
  refine ⟨b, off, rfl, hlt, fun i hi => ?_⟩
  have hi' : i < zs.length := by simp at hi; omega
  have hin : i < n := by simp at hi; omega
  rw [hc i hi']
  simp [List.getD, hin]
theorem SlInts.of_owned {k : IntKind} {w : World} {base : Nat} {e : TypeId} {v : Value} {n : Nat} {zs : List Int} (h : w.ownsRow base e 1 v n (zs.map (Value.int k))) (hv : v ≠ .slice none 0 0) :
    ∃ a cap, v = .slice a n cap ∧ SlInts k w a zs ∧ zs.length = n := by
  obtain ⟨g, cap, rfl, _, hlt, _, _, hl, hc⟩ := owned_out h hv
  refine ⟨_, _, rfl, fun hz => ⟨g, 0, rfl, hlt, fun i hi => ?_⟩, by simpa using hl⟩
  rw [Nat.zero_add]
  refine (hc i _ ?_).1
  simp [List.getD, hi]
theorem int_oneCell {k : IntKind} (zs : List Int) : ∀ u ∈ zs.map (Value.int k), u.oneCell' = true := by
  intro u hu
  obtain ⟨z, _, rfl⟩ := List.mem_map.1 hu
  rfl
theorem SlInts.news {k : IntKind} {w : World} {x : Addr} {zs : List Int} (h : SlInts k w (some x) zs) : ∀ (j : Nat) (u : Value), (zs.map (Value.int k))[j]? = some u → w.cell? (x.add j) = some u := by
  intro j u hu
  have hj : j < zs.length := by
    by_cases hj : j < zs.length
    · exact hj
    · rw [List.getElem?_eq_none (by simpa using hj)] at hu; cases hu
  obtain ⟨b, off, hx, _, hc⟩ := h (by intro e; subst e; simp at hj)
  obtain rfl : x = ⟨b, off, none⟩ := Option.some.inj hx
  have hadd : (⟨b, off, none⟩ : Addr).add j = ⟨b, off + j, none⟩ := by unfold Addr.add; split <;> simp_all
  rw [hadd, hc j hj]
  simp [hj] at hu
  rw [← hu]; simp [List.getD, hj]

/-- behind an append to a row that was laid as the last block: all that was there before it stays -/
theorem grown_keeps {w w' : World} {o : Obj} {n c : Nat} (h : (w.alloc o).grownBy w' (Value.ownBlock (.slice (some ⟨w.heap.size, 0, none⟩) n c))) : Keeps w w' :=
  Below.grown ((Keeps.refl w).alloc (Nat.le_refl _) o) h (by simp) (fun k hk => by simp [Value.ownBlock] at hk; omega)

/-- from a row of integers that came in -/
theorem SlInts.of_row {k : IntKind} {w : World} {x : Addr} {len : Nat} {zs : List Int} (hl : len ≤ zs.length) (hcell : ∀ i, i < zs.length → w.cell? (x.add i) = some (.int k (zs.getD i 0))) :
    SlInts k w (some x) (zs.take len) ∧ (zs.take len).length = len := by
  refine ⟨SlInts.take (fun hz => ?_) len, by simp; omega⟩
  have h0 : 0 < zs.length := by cases zs with | nil => exact absurd rfl hz | cons _ _ => simp
  obtain ⟨b, off, spot⟩ := x
  have hc := hcell 0 h0
  have hspot : spot = none := by simpa [Addr.add] using World.cell?_spot hc
  subst hspot
  refine ⟨b, off, rfl, by simpa [Addr.add] using World.block_lt_of_cell? w _ hc, fun i hi => ?_⟩
  have := hcell i hi
  have hadd : (⟨b, off, none⟩ : Addr).add i = ⟨b, off + i, none⟩ := by unfold Addr.add; split <;> simp_all
  rwa [hadd] at this

/-! a callee's contract inside a quiet region: the world stays (s), or it draws (q); the first quiet region (1), or one behind another (2) -/
section
variable {P : Program} {f : FuncId} {args : Array Value} {w : World} {a n : Nat} {v : Value}
theorem q1 (h : Calls P f args (w.drewN n) fun e w' => e = .returned v ∧ Qt (w.drewN n) w') : Calls P f args (w.drewN n) fun e w'' => e = .returned v ∧ ∃ m, w'' = w.drewN m :=
  h.mono fun _ _ ⟨he, m, hm⟩ => ⟨he, n + m, by rw [hm, World.drewN_drewN]⟩
theorem q2 (h : Calls P f args (w.drewN (a + n)) fun e w' => e = .returned v ∧ Qt (w.drewN (a + n)) w') : Calls P f args (w.drewN (a + n)) fun e w'' => e = .returned v ∧ ∃ m, w'' = w.drewN (a + m) :=
  h.mono fun _ _ ⟨he, m, hm⟩ => ⟨he, n + m, by rw [hm, World.drewN_drewN, Nat.add_assoc]⟩
theorem s1 (h : Calls P f args (w.drewN n) fun e w' => e = .returned v ∧ w.drewN n = w') : Calls P f args (w.drewN n) fun e w'' => e = .returned v ∧ ∃ m, w'' = w.drewN m :=
  h.mono fun _ _ ⟨he, hm⟩ => ⟨he, n, hm.symm⟩
theorem s2 (h : Calls P f args (w.drewN (a + n)) fun e w' => e = .returned v ∧ w.drewN (a + n) = w') : Calls P f args (w.drewN (a + n)) fun e w'' => e = .returned v ∧ ∃ m, w'' = w.drewN (a + m) :=
  h.mono fun _ _ ⟨he, hm⟩ => ⟨he, n, hm.symm⟩
end
end Go.Proofs.YthfepfpmkckdnaaDoor
