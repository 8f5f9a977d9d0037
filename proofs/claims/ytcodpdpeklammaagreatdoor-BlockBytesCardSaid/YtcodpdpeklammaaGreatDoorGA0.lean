/- Small words used by all my walks: worlds up to draws (Qt), endings, hiding. No condition. | Words on memory used by my walks: a row of cells from a place on (Row), a change of some blocks alone (Chg), whole arrays read out of a row. No condition. | A slice that may be appended to: what it reads, and that its spare room may be written (Buf); append onto it, from whatever source. No condition. -/
import Derived.WalkKit
import Derived.Deep.QuietTactic
import Derived.BigQuiet
import Derived.Lib.Hide
import Derived.WalkSpells
import Derived.WalkLawsBesides
import Derived.WalkSmall
import Derived.Laws.Rows
import Derived.Deep.AppendSrc
namespace Go.Proofs.YtcodpdpeklammaaGreatDoor
set_option linter.unusedVariables false
set_option linter.unusedSimpArgs false
open Go Go.RowKit

theorem ret_bool {a b : Bool} (h : a = b) : Ending.returned (.bool a) = .returned (.bool b) := by rw [h]
theorem ret_int {k : IntKind} {a b : Int} (h : a = b) : Ending.returned (.int k a) = .returned (.int k b) := by rw [h]

/-- the world after some draws -/
def Qt (w w' : World) : Prop := ∃ n, w' = w.drewN n
theorem Qt.refl (w : World) : Qt w w := ⟨0, rfl⟩
theorem Qt.drewN (w : World) (n : Nat) : Qt w (w.drewN n) := ⟨n, rfl⟩
theorem Qt.trans {a b c : World} (h : Qt a b) (k : Qt b c) : Qt a c := by
  obtain ⟨n, rfl⟩ := h; obtain ⟨m, rfl⟩ := k; exact ⟨n + m, World.drewN_drewN _ _ _⟩
theorem Qt.below {a b : World} (h : Qt a b) (B : Nat) : Below B a b := by
  obtain ⟨n, rfl⟩ := h; exact ⟨rfl, rfl, rfl, Nat.le_refl _, fun _ _ => rfl⟩
theorem Qt.size {a b : World} (h : Qt a b) : b.heap.size = a.heap.size := by
  obtain ⟨n, rfl⟩ := h; rfl

/-- everything that was there stays -/
abbrev Keeps (w w' : World) : Prop := Below w.heap.size w w'
theorem Keeps.refl (w : World) : Keeps w w := Below.refl _ _
theorem Keeps.trans {a b c : World} (h : Keeps a b) (k : Keeps b c) : Keeps a c := Below.trans h (Below.mono k h.size)
theorem Qt.keeps {a b : World} (h : Qt a b) : Keeps a b := h.below _

/-- what an owned row of one-cell elements is, once it isn't nil -/
theorem owned_out {w : World} {base : Nat} {e : TypeId} {v : Value} {n : Nat} {xs : List Value} (h : w.ownsRow base e 1 v n xs) (hv : v ≠ .slice none 0 0) :
    ∃ g cap, v = .slice (some ⟨g, 0, none⟩) n cap ∧ base ≤ g ∧ g < w.heap.size ∧ n ≤ cap ∧ cap ≤ maxLen ∧ xs.length = n ∧ (∀ i u, xs[i]? = some u → w.cell? ⟨g, i, none⟩ = some u ∧ w.frozen? ⟨g, i, none⟩ = false) := by
  rcases h.2 with ⟨rfl, _⟩ | ⟨g, cap, cur, rfl, hb, hg, hnc, hcm, hcs, htake⟩
  · exact absurd rfl hv
  · refine ⟨g, cap, rfl, hb, (Array.getElem?_eq_some_iff.1 hg).1, hnc, hcm, by simpa using h.1, fun i u hu => ?_⟩
    have hc := h.cells (g := g) rfl i u hu
    have hadd : (⟨g, 0, none⟩ : Addr).add i = ⟨g, i, none⟩ := by unfold Addr.add; split <;> simp_all
    rw [hadd] at hc
    refine ⟨hc, ?_⟩
    simp [World.frozen?, hg]

/-- cells from 'off' on hold these integers -/
def IntsAt (k : IntKind) (w : World) (b off : Nat) (zs : List Int) : Prop := ∀ i, i < zs.length → w.cell? ⟨b, off + i, none⟩ = some (.int k (zs.getD i 0))
/-- a slice (its address) reads as these integers: nothing is said where there is none -/
def SlInts (k : IntKind) (w : World) (a : Option Addr) (zs : List Int) : Prop := zs ≠ [] → ∃ b off, a = some ⟨b, off, none⟩ ∧ b < w.heap.size ∧ IntsAt k w b off zs
theorem SlInts.keeps {k : IntKind} {w w' : World} {a : Option Addr} {zs : List Int} (h : SlInts k w a zs) (hb : Keeps w w') : SlInts k w' a zs := by
  intro hz
  obtain ⟨b, off, rfl, hlt, hc⟩ := h hz
  exact ⟨b, off, rfl, Nat.lt_of_lt_of_le hlt hb.size, fun i hi => (hb.cell (p := ⟨b, off + i, none⟩) hlt).trans (hc i hi)⟩
theorem SlInts.take {k : IntKind} {w : World} {a : Option Addr} {zs : List Int} (h : SlInts k w a zs) (n : Nat) : SlInts k w a (zs.take n) := by
  intro hz
  obtain ⟨b, off, rfl, hlt, hc⟩ := h (by intro e; subst e; simp at hz)
  refine ⟨b, off, rfl, hlt, fun i hi => ?_⟩
  have hi' : i < zs.length := by simp at hi; omega
  have hin : i < n := by simp at hi; omega
  rw [hc i hi']
  simp [List.getD, hin]
theorem SlInts.of_owned {k : IntKind} {w : World} {base : Nat} {e : TypeId} {v : Value} {n : Nat} {zs : List Int} (h : w.ownsRow base e 1 v n (zs.map (Value.int k))) (hv : v ≠ .slice none 0 0) :
    ∃ a cap, v = .slice a n cap ∧ SlInts k w a zs ∧ zs.length = n := by
  obtain ⟨g, cap, rfl, _, hlt, _, _, hl, hc⟩ := owned_out h hv
  refine ⟨_, _, rfl, fun hz => ⟨g, 0, rfl, hlt, fun i hi => ?_⟩, by simpa using hl⟩
  rw [Nat.zero_add]
  refine (hc i _ ?_).1
  simp [List.getD, hi]
theorem int_oneCell {k : IntKind} (zs : List Int) : ∀ u ∈ zs.map (Value.int k), u.oneCell' = true := by
  intro u hu
  obtain ⟨z, _, rfl⟩ := List.mem_map.1 hu
  rfl
theorem SlInts.news {k : IntKind} {w : World} {x : Addr} {zs : List Int} (h : SlInts k w (some x) zs) : ∀ (j : Nat) (u : Value), (zs.map (Value.int k))[j]? = some u → w.cell? (x.add j) = some u := by
  intro j u hu
  have hj : j < zs.length := by
    by_cases hj : j < zs.length
    · exact hj
    · rw [List.getElem?_eq_none (by simpa using hj)] at hu; cases hu
  obtain ⟨b, off, hx, _, hc⟩ := h (by intro e; subst e; simp at hj)
  obtain rfl : x = ⟨b, off, none⟩ := Option.some.inj hx
  have hadd : (⟨b, off, none⟩ : Addr).add j = ⟨b, off + j, none⟩ := by unfold Addr.add; split <;> simp_all
  rw [hadd, hc j hj]
  simp [hj] at hu
  rw [← hu]; simp [List.getD, hj]

/-- from a row of integers that came in -/
theorem SlInts.of_row {k : IntKind} {w : World} {x : Addr} {len : Nat} {zs : List Int} (hl : len ≤ zs.length) (hcell : ∀ i, i < zs.length → w.cell? (x.add i) = some (.int k (zs.getD i 0))) :
    SlInts k w (some x) (zs.take len) ∧ (zs.take len).length = len := by
  refine ⟨SlInts.take (fun hz => ?_) len, by simp; omega⟩
  have h0 : 0 < zs.length := by cases zs with | nil => exact absurd rfl hz | cons _ _ => simp
  obtain ⟨b, off, spot⟩ := x
  have hc := hcell 0 h0
  have hspot : spot = none := by simpa [Addr.add] using World.cell?_spot hc
  subst hspot
  refine ⟨b, off, rfl, by simpa [Addr.add] using World.block_lt_of_cell? w _ hc, fun i hi => ?_⟩
  have := hcell i hi
  have hadd : (⟨b, off, none⟩ : Addr).add i = ⟨b, off + i, none⟩ := by unfold Addr.add; split <;> simp_all
  rwa [hadd] at this

/-! a callee's contract inside a quiet region: the world stays (s), or it draws (q); the first quiet region (1), or one behind another (2) -/
section
variable {P : Program} {f : FuncId} {args : Array Value} {w : World} {a n : Nat} {v : Value}
theorem q1 (h : Calls P f args (w.drewN n) fun e w' => e = .returned v ∧ Qt (w.drewN n) w') : Calls P f args (w.drewN n) fun e w'' => e = .returned v ∧ ∃ m, w'' = w.drewN m :=
  h.mono fun _ _ ⟨he, m, hm⟩ => ⟨he, n + m, by rw [hm, World.drewN_drewN]⟩
theorem q2 (h : Calls P f args (w.drewN (a + n)) fun e w' => e = .returned v ∧ Qt (w.drewN (a + n)) w') : Calls P f args (w.drewN (a + n)) fun e w'' => e = .returned v ∧ ∃ m, w'' = w.drewN (a + m) :=
  h.mono fun _ _ ⟨he, m, hm⟩ => ⟨he, n + m, by rw [hm, World.drewN_drewN, Nat.add_assoc]⟩
theorem s1 (h : Calls P f args (w.drewN n) fun e w' => e = .returned v ∧ w.drewN n = w') : Calls P f args (w.drewN n) fun e w'' => e = .returned v ∧ ∃ m, w'' = w.drewN m :=
  h.mono fun _ _ ⟨he, hm⟩ => ⟨he, n, hm.symm⟩
theorem s2 (h : Calls P f args (w.drewN (a + n)) fun e w' => e = .returned v ∧ w.drewN (a + n) = w') : Calls P f args (w.drewN (a + n)) fun e w'' => e = .returned v ∧ ∃ m, w'' = w.drewN (a + m) :=
  h.mono fun _ _ ⟨he, hm⟩ => ⟨he, n, hm.symm⟩
end
end Go.Proofs.YtcodpdpeklammaaGreatDoor
namespace Go.Proofs.YtcodpdpeklammaaGreatDoor
set_option linter.unusedVariables false
set_option linter.unusedSimpArgs false
open Go Go.RowKit

/-- cells from 'off' on in block b hold these values, and may be written -/
def Row (w : World) (b off : Nat) (vs : List Value) : Prop := ∀ j v, vs[j]? = some v → w.cell? ⟨b, off + j, none⟩ = some v ∧ w.frozen? ⟨b, off + j, none⟩ = false

/-- only blocks of S that were there have changed -/
structure Chg (S : Nat → Prop) (w w' : World) : Prop where
  os : w'.os = w.os
  tape : w'.tape = w.tape
  output : w'.output = w.output
  size : w.heap.size ≤ w'.heap.size
  block : ∀ k, k < w.heap.size → ¬ S k → w'.heap[k]? = w.heap[k]?
theorem Chg.refl (S : Nat → Prop) (w : World) : Chg S w w := ⟨rfl, rfl, rfl, Nat.le_refl _, fun _ _ _ => rfl⟩
theorem Chg.trans {S : Nat → Prop} {a b c : World} (h : Chg S a b) (k : Chg S b c) : Chg S a c :=
  ⟨k.os.trans h.os, k.tape.trans h.tape, k.output.trans h.output, Nat.le_trans h.size k.size, fun i hi hs => (k.block i (Nat.lt_of_lt_of_le hi h.size) hs).trans (h.block i hi hs)⟩
theorem Chg.mono {S T : Nat → Prop} {w w' : World} (h : Chg S w w') (hs : ∀ k, k < w.heap.size → S k → T k) : Chg T w w' :=
  ⟨h.os, h.tape, h.output, h.size, fun k hk ht => h.block k hk (fun hsk => ht (hs k hk hsk))⟩
theorem Keeps.chg {w w' : World} (h : Keeps w w') (S : Nat → Prop) : Chg S w w' := ⟨h.os, h.tape, h.output, h.size, fun k hk _ => h.block k hk⟩
theorem Chg.below {S : Nat → Prop} {w w' : World} (h : Chg S w w') {B : Nat} (hB : B ≤ w.heap.size) (hs : ∀ k, k < B → ¬ S k) : Below B w w' :=
  ⟨h.os, h.tape, h.output, h.size, fun k hk => h.block k (Nat.lt_of_lt_of_le hk hB) (hs k hk)⟩
theorem Chg.keeps {S : Nat → Prop} {w w' : World} (h : Chg S w w') (hs : ∀ k, k < w.heap.size → ¬ S k) : Keeps w w' := h.below (Nat.le_refl _) hs
theorem Chg.drewN {S : Nat → Prop} {a w : World} (h : Chg S a w) (n : Nat) : Chg S a (w.drewN n) := h.trans ((Qt.drewN w n).keeps.chg S)
theorem Chg.drew {S : Nat → Prop} {a w : World} (h : Chg S a w) : Chg S a w.drew := h.trans (Keeps.chg (Below.drew (Below.refl _ w)) S)
theorem Chg.alloc {S : Nat → Prop} {a w : World} (h : Chg S a w) (o : Obj) : Chg S a (w.alloc o) := h.trans (Keeps.chg (Below.alloc (Below.refl _ w) (Nat.le_refl _) o) S)
theorem Chg.setCell {S : Nat → Prop} {a w : World} (h : Chg S a w) {p : Addr} (hp : a.heap.size ≤ p.block ∨ S p.block) (u : Value) : Chg S a (w.setCell p u) :=
  ⟨h.os, h.tape, h.output, by simpa using h.size, fun k hk hs => by
    have hne : k ≠ p.block := by
      intro e
      subst e
      rcases hp with hp | hp
      · omega
      · exact hs hp
    rw [heap_setCell_other w p k u hne]
    exact h.block k hk hs⟩
theorem Row.lt {w : World} {b off : Nat} {vs : List Value} (h : Row w b off vs) (hne : vs ≠ []) : b < w.heap.size := by
  cases vs with
  | nil => exact absurd rfl hne
  | cons v vs => exact World.block_lt_of_cell? w _ (h 0 v rfl).1
theorem Row.of_block {w w' : World} {b off : Nat} {vs : List Value} (h : Row w b off vs) (hb : w'.heap[b]? = w.heap[b]?) : Row w' b off vs := fun j v hv =>
  ⟨(World.cell?_of_block (w := w) (a := ⟨b, off + j, none⟩) hb).trans (h j v hv).1, (World.frozen?_of_block (w := w) (a := ⟨b, off + j, none⟩) hb).trans (h j v hv).2⟩
theorem Row.chg {S : Nat → Prop} {w w' : World} {b off : Nat} {vs : List Value} (h : Row w b off vs) (hc : Chg S w w') (hs : ¬ S b) : Row w' b off vs := by
  by_cases hne : vs = []
  · subst hne; intro j v hv; simp at hv
  · exact h.of_block (hc.block b (h.lt hne) hs)
theorem Row.keeps {w w' : World} {b off : Nat} {vs : List Value} (h : Row w b off vs) (hc : Keeps w w') : Row w' b off vs := h.chg (hc.chg (fun _ => False)) (fun h => h)
theorem Row.alloc {w : World} {b off : Nat} {vs : List Value} (h : Row w b off vs) (o : Obj) : Row (w.alloc o) b off vs := h.keeps ((Keeps.refl w).alloc (Nat.le_refl _) o)
theorem Row.drewN {w : World} {b off : Nat} {vs : List Value} (h : Row w b off vs) (n : Nat) : Row (w.drewN n) b off vs := h
theorem Row.drew {w : World} {b off : Nat} {vs : List Value} (h : Row w b off vs) : Row w.drew b off vs := h
theorem Row.other {w : World} {b off : Nat} {vs : List Value} (h : Row w b off vs) {p : Addr} (hp : b ≠ p.block) (u : Value) : Row (w.setCell p u) b off vs := h.of_block (heap_setCell_other w p b u hp)
/-- a store beside the row, in the same block -/
theorem Row.beside {w : World} {b off : Nat} {vs : List Value} (h : Row w b off vs) (o : Nat) (ho : o < off ∨ off + vs.length ≤ o) (u : Value) : Row (w.setCell ⟨b, o, none⟩ u) b off vs := fun j v hv => by
  have hj : j < vs.length := by
    by_cases hj : j < vs.length
    · exact hj
    · rw [List.getElem?_eq_none (by omega)] at hv; cases hv
  refine ⟨?_, by rw [World.frozen?_setCell]; exact (h j v hv).2⟩
  rw [World.cell?_setCell_other]
  · exact (h j v hv).1
  · intro e
    have := congrArg Addr.off e
    simp at this; omega
theorem Row.set {w : World} {b off : Nat} {vs : List Value} (h : Row w b off vs) (i : Nat) (hi : i < vs.length) (u : Value) : Row (w.setCell ⟨b, off + i, none⟩ u) b off (vs.set i u) := fun j v hv => by
  refine ⟨?_, ?_⟩
  · by_cases e : i = j
    · subst e
      rw [List.getElem?_set_self hi] at hv
      cases hv
      exact World.cell?_setCell_same _ _ _ (h i vs[i] (by simp)).1
    · rw [List.getElem?_set_ne e] at hv
      rw [World.cell?_setCell_other]
      · exact (h j v hv).1
      · intro e2
        have := congrArg Addr.off e2
        simp at this; exact e this
  · rw [World.frozen?_setCell]
    by_cases e : i = j
    · subst e; exact (h i vs[i] (by simp)).2
    · rw [List.getElem?_set_ne e] at hv; exact (h j v hv).2
theorem Row.new {w : World} (vs : List Value) (cs : Array Value) (T : TypeId) (e : cs = vs.toArray) : Row (w.alloc (.cells cs T)) w.heap.size 0 vs := fun j v hv => by
  subst e
  rw [Nat.zero_add, World.cell?_alloc_at _ _ _ _ rfl, World.frozen?_alloc_at _ _ _ _ rfl]
  exact ⟨by simpa using hv, rfl⟩
theorem Row.take {w : World} {b off : Nat} {vs : List Value} (h : Row w b off vs) (n : Nat) : Row w b off (vs.take n) := fun j v hv => h j v (by
  rw [List.getElem?_take] at hv; split at hv
  · exact hv
  · cases hv)
theorem Row.drop {w : World} {b off : Nat} {vs : List Value} (h : Row w b off vs) (n : Nat) : Row w b (off + n) (vs.drop n) := fun j v hv => by
  rw [List.getElem?_drop] at hv
  rw [Nat.add_assoc]; exact h _ _ hv
theorem Row.append {w : World} {b off : Nat} {xs ys : List Value} (h : Row w b off xs) (k : Row w b (off + xs.length) ys) : Row w b off (xs ++ ys) := fun j v hv => by
  by_cases hj : j < xs.length
  · rw [List.getElem?_append_left hj] at hv; exact h j v hv
  · rw [List.getElem?_append_right (by omega)] at hv
    have := k _ v hv
    rwa [show off + xs.length + (j - xs.length) = off + j by omega] at this

/-- the cell of a row of integers -/
theorem Row.int {k : IntKind} {w : World} {b off : Nat} {zs : List Int} (h : Row w b off (zs.map (Value.int k))) (j : Nat) (hj : j < zs.length) : w.cell? ⟨b, off + j, none⟩ = some (.int k (zs.getD j 0)) :=
  (h j _ (by simp [List.getD, hj])).1
theorem Row.int0 {k : IntKind} {w : World} {b : Nat} {zs : List Int} (h : Row w b 0 (zs.map (Value.int k))) (j : Nat) (hj : j < zs.length) : w.cell? ⟨b, j, none⟩ = some (.int k (zs.getD j 0)) := by
  have := h.int j hj; rwa [Nat.zero_add] at this
theorem Row.free {w : World} {b off : Nat} {vs : List Value} (h : Row w b off vs) (j : Nat) (hj : j < vs.length) : w.frozen? ⟨b, off + j, none⟩ = false := (h j vs[j] (by simp)).2
theorem Row.free0 {w : World} {b : Nat} {vs : List Value} (h : Row w b 0 vs) (j : Nat) (hj : j < vs.length) : w.frozen? ⟨b, j, none⟩ = false := by
  have := h.free j hj; rwa [Nat.zero_add] at this
theorem Row.setInt0 {k : IntKind} {w : World} {b : Nat} {zs : List Int} (h : Row w b 0 (zs.map (Value.int k))) (i : Nat) (hi : i < zs.length) (u : Int) : Row (w.setCell ⟨b, i, none⟩ (.int k u)) b 0 ((zs.set i u).map (Value.int k)) := by
  have := h.set i (by simpa using hi) (.int k u)
  rw [Nat.zero_add] at this
  rwa [List.map_set]
theorem Row.setInt {k : IntKind} {w : World} {b off : Nat} {zs : List Int} (h : Row w b off (zs.map (Value.int k))) (i : Nat) (hi : i < zs.length) (u : Int) : Row (w.setCell ⟨b, off + i, none⟩ (.int k u)) b off ((zs.set i u).map (Value.int k)) := by
  have := h.set i (by simpa using hi) (.int k u)
  rwa [List.map_set]

/-- beside n cells from o on, block b reads as it did -/
def Beside (w w' : World) (b o n : Nat) : Prop := ∀ j, (j < o ∨ o + n ≤ j) → w'.cell? ⟨b, j, none⟩ = w.cell? ⟨b, j, none⟩ ∧ w'.frozen? ⟨b, j, none⟩ = w.frozen? ⟨b, j, none⟩
theorem Beside.of_block {w w' : World} {b : Nat} (h : w'.heap[b]? = w.heap[b]?) (o n : Nat) : Beside w w' b o n := fun j _ =>
  ⟨World.cell?_of_block (w := w) (a := ⟨b, j, none⟩) h, World.frozen?_of_block (w := w) (a := ⟨b, j, none⟩) h⟩
theorem Beside.keeps {w w' : World} {b : Nat} (h : Keeps w w') (hb : b < w.heap.size) (o n : Nat) : Beside w w' b o n := Beside.of_block (h.block b hb) o n
theorem Beside.trans {a b c : World} {g o n : Nat} (h : Beside a b g o n) (k : Beside b c g o n) : Beside a c g o n := fun j hj =>
  ⟨(k j hj).1.trans (h j hj).1, (k j hj).2.trans (h j hj).2⟩
theorem Beside.setCell {w : World} {b o n i : Nat} (hi : i < n) (u : Value) : Beside w (w.setCell ⟨b, o + i, none⟩ u) b o n := fun j hj => by
  refine ⟨World.cell?_setCell_other _ _ _ _ ?_, World.frozen?_setCell _ _ _ _⟩
  intro e
  have := congrArg Addr.off e
  simp at this; omega
/-- a part of a row written anew -/
theorem Row.patch {w w' : World} {b base : Nat} {vs cs : List Value} (h : Row w b base vs) (i : Nat) (hc : Row w' b (base + i) cs) (hb : Beside w w' b (base + i) cs.length) (hl : i + cs.length ≤ vs.length) :
    Row w' b base (vs.take i ++ cs ++ vs.drop (i + cs.length)) := fun j v hv => by
  by_cases h1 : j < i
  · rw [List.append_assoc, List.getElem?_append_left (by simp; omega), List.getElem?_take, if_pos h1] at hv
    have e := hb (base + j) (.inl (by omega))
    exact ⟨e.1.trans (h j v hv).1, e.2.trans (h j v hv).2⟩
  · by_cases h2 : j < i + cs.length
    · rw [List.append_assoc, List.getElem?_append_right (by simp; omega), List.getElem?_append_left (by simp; omega)] at hv
      have := hc (j - i) v (by simpa [Nat.min_eq_left (show i ≤ vs.length by omega)] using hv)
      rwa [show base + i + (j - i) = base + j by omega] at this
    · rw [List.getElem?_append_right (by simp; omega), List.getElem?_drop] at hv
      have hv' : vs[j]? = some v := by
        rw [← hv]; congr 1; simp; omega
      have e := hb (base + j) (.inr (by omega))
      exact ⟨e.1.trans (h j v hv').1, e.2.trans (h j v hv').2⟩

section
variable {P : Program}
/-- a whole array, or struct, read out of a row -/
theorem run_loadVar_at (w : World) (g off : Nat) (ty : TypeId) (cs : List Value) (d : TypeDesc) (hg : Row w g off cs)
    (hu : P.underlying ty = some d) (hd : (match d with | .struct _ | .array _ _ => true | _ => false) = true) (hi : (P.info? ty).map (·.size) = some cs.length) :
    (loadVar ty ⟨g, off, none⟩).run P w = .ok (.agg cs.toArray) w := by
  have hl : (loadCells ⟨g, off, none⟩ cs.length).run P w = .ok cs.toArray w :=
    run_loadCells_list (P := P) w ⟨g, off, none⟩ cs (fun j v hv => by
      have hadd : (⟨g, off, none⟩ : Addr).add j = ⟨g, off + j, none⟩ := by unfold Addr.add; split <;> simp_all
      rw [hadd]
      exact (hg j v hv).1)
  cases hq : P.info? ty with
  | none => simp [hq] at hi
  | some i =>
    have hs : i.size = cs.length := by simpa [hq] using hi
    have hagg : (isAgg ty).run P w = .ok true w := by
      unfold isAgg
      rw [Sem.run_bind, run_underlying hu w]
      cases d <;> simp_all
    simp [loadVar, Sem.run_bind, hagg, sizeOf, typeInfo, hq, hs, hl]
theorem wpList_load_at {ops : Array Oper} {rest : List Oper} {o : Oper} {a : Act} {w : World} {Q : Exit → Act → World → Prop} (hgd : o.guard = none) (ty : TypeId) (x : Operand) (ho : o.op = .load ty x)
    (g off : Nat) (hx : a.eval x = .pointer (some ⟨g, off, none⟩)) (cs : List Value) (d : TypeDesc) (hg : Row w g off cs)
    (hu : P.underlying ty = some d) (hd : (match d with | .struct _ | .array _ _ => true | _ => false) = true) (hi : (P.info? ty).map (·.size) = some cs.length)
    (h : wpList P ops Q rest (a.put o.dst (.agg cs.toArray)) w) : wpList P ops Q (o :: rest) a w :=
  wpList_plain hgd fun _ hK => by
    unfold Oper.wp execOp
    simp only [ho, hx, Instr.loadAt, Instr.sureAddr, Sem.run_bind, Sem.run_pure, Result.andThen_ok, run_loadVar_at w g off ty cs d hg hu hd hi]
    exact hK _ _ h
theorem results_cell_at {fn : Func} {p : Tmp} {ty : TypeId} (h : fn.results = #[.cell p ty]) (tmps : Array Value) (w : World) (g off : Nat) (cs : List Value) (d : TypeDesc)
    (hp : tmps.getD p undef = .pointer (some ⟨g, off, none⟩)) (hg : Row w g off cs)
    (hu : P.underlying ty = some d) (hd : (match d with | .struct _ | .array _ _ => true | _ => false) = true) (hi : (P.info? ty).map (·.size) = some cs.length) :
    (results fn tmps).run P w = .ok (.agg cs.toArray) w := by
  have hp' : tmps[p]?.getD undef = .pointer (some ⟨g, off, none⟩) := by simpa using hp
  simp [results, h, hp', asAddr, run_loadVar_at w g off ty cs d hg hu hd hi]
/-- an element of an array of integers that is a value -/
theorem run_index_ints (w : World) (T e : TypeId) (n : Nat) (k : IntKind) (zs : List Int) (i : Nat) (hu : P.underlying T = some (.array n e)) (he : P.underlying e = some (.int k)) (hs : (P.info? e).map (·.size) = some 1) (hl : zs.length = n) (hi : i < n) :
    (Instr.index T (.agg (zs.map (Value.int k)).toArray) (.int .i64 (i : Int))).run P w = .ok (.int k (zs.getD i 0)) w := by
  have hi' : i < zs.length := by omega
  have h1 : (0 : Int) ≤ (i : Int) ∧ (i : Int) < (n : Int) := by omega
  cases hq : P.info? e with
  | none => simp [hq] at hs
  | some x =>
    have hx : x.size = 1 := by simpa [hq] using hs
    simp [Instr.index, run_underlying hu, run_underlying he, asIntOf, h1, go_sem, part, isAgg, sizeOf, typeInfo, hq, hx, List.getD, hi']
    intro hni; omega
end
end Go.Proofs.YtcodpdpeklammaaGreatDoor
namespace Go.Proofs.YtcodpdpeklammaaGreatDoor
set_option linter.unusedVariables false
set_option linter.unusedSimpArgs false
open Go Go.RowKit

/-- the value is a slice of n elements of 'size' cells each that reads as xs; its spare room is there and may be written; nil: it has none -/
def Buf (w : World) (size : Nat) (v : Value) (n : Nat) (xs : List Value) : Prop :=
  xs.length = n * size ∧ ((v = .slice none 0 0 ∧ n = 0) ∨
    ∃ g off cap spare, v = .slice (some ⟨g, off, none⟩) n cap ∧ n ≤ cap ∧ cap ≤ maxLen ∧ xs.length + spare.length = cap * size ∧ g < w.heap.size ∧ Row w g off (xs ++ spare))

theorem Buf.nil (w : World) (size : Nat) : Buf w size (.slice none 0 0) 0 [] := ⟨by simp, .inl ⟨rfl, rfl⟩⟩
theorem Buf.chg {S : Nat → Prop} {w w' : World} {size : Nat} {v : Value} {n : Nat} {xs : List Value} (h : Buf w size v n xs) (hc : Chg S w w') (hs : ∀ g, v.ownBlock = some g → ¬ S g) : Buf w' size v n xs := by
  refine ⟨h.1, ?_⟩
  rcases h.2 with hn | ⟨g, off, cap, spare, rfl, h1, h2, h3, h4, h5⟩
  · exact .inl hn
  · exact .inr ⟨g, off, cap, spare, rfl, h1, h2, h3, Nat.lt_of_lt_of_le h4 hc.size, h5.chg hc (hs g rfl)⟩
theorem Buf.keeps {w w' : World} {size : Nat} {v : Value} {n : Nat} {xs : List Value} (h : Buf w size v n xs) (hc : Keeps w w') : Buf w' size v n xs := h.chg (hc.chg (fun _ => False)) (fun _ _ h => h)
theorem Buf.lt {w : World} {size : Nat} {v : Value} {n : Nat} {xs : List Value} (h : Buf w size v n xs) {g : Nat} (hg : v.ownBlock = some g) : g < w.heap.size := by
  rcases h.2 with ⟨rfl, _⟩ | ⟨g', off, cap, spare, rfl, h1, h2, h3, h4, h5⟩
  · simp [Value.ownBlock] at hg
  · simp [Value.ownBlock] at hg; subst hg; exact h4
/-- the value's form, where it reads something or is known not to be nil -/
theorem Buf.form {w : World} {size : Nat} {v : Value} {n : Nat} {xs : List Value} (h : Buf w size v n xs) (hv : v ≠ .slice none 0 0 ∨ 0 < n) :
    ∃ g off cap, v = .slice (some ⟨g, off, none⟩) n cap ∧ n ≤ cap ∧ cap ≤ maxLen ∧ g < w.heap.size ∧ Row w g off xs := by
  rcases h.2 with ⟨rfl, h0⟩ | ⟨g, off, cap, spare, rfl, h1, h2, h3, h4, h5⟩
  · rcases hv with hv | hv
    · exact absurd rfl hv
    · omega
  · refine ⟨g, off, cap, rfl, h1, h2, h4, ?_⟩
    have := h5.take xs.length
    rwa [List.take_left] at this
/-- any slice: an address (perhaps none), the length, a capacity; the row where there is something -/
theorem Buf.any {w : World} {size : Nat} {v : Value} {n : Nat} {xs : List Value} (h : Buf w size v n xs) :
    ∃ a cap, v = .slice a n cap ∧ n ≤ cap ∧ cap ≤ maxLen ∧ (a = none → n = 0 ∧ cap = 0) ∧ (∀ ad, a = some ad → ∃ g off, ad = ⟨g, off, none⟩ ∧ g < w.heap.size ∧ Row w g off xs) := by
  rcases h.2 with ⟨rfl, h0⟩ | ⟨g, off, cap, spare, rfl, h1, h2, h3, h4, h5⟩
  · subst h0; exact ⟨none, 0, rfl, Nat.le_refl _, Nat.zero_le _, fun _ => ⟨rfl, rfl⟩, fun ad h => by cases h⟩
  · refine ⟨_, cap, rfl, h1, h2, fun h => (by cases h), fun ad h => ⟨g, off, (Option.some.inj h).symm, h4, ?_⟩⟩
    have := h5.take xs.length
    rwa [List.take_left] at this
theorem Buf.of_owned {w : World} {base : Nat} {e : TypeId} {size : Nat} {v : Value} {n : Nat} {xs : List Value} (h : w.ownsRow base e size v n xs) : Buf w size v n xs := by
  refine ⟨h.1, ?_⟩
  rcases h.2 with hn | ⟨g, cap, cur, rfl, hb, hg, hnc, hcm, hcs, htake⟩
  · exact .inl hn
  · have hx : xs ++ cur.toList.drop (n * size) = cur.toList := by rw [← htake, List.take_append_drop]
    refine .inr ⟨g, 0, cap, cur.toList.drop (n * size), rfl, hnc, hcm, ?_, (Array.getElem?_eq_some_iff.1 hg).1, ?_⟩
    · have := congrArg List.length hx
      rw [List.length_append] at this
      rw [this, Array.length_toList, hcs]
    · rw [hx]
      intro j v hv
      rw [Nat.zero_add]
      exact ⟨(cell_of_row _ _ _ _ _ _ hg).trans (by simpa using hv), frozen_of_row _ _ _ _ _ hg⟩
theorem Buf.made {w : World} {size : Nat} (T : TypeId) : Buf (w.alloc (.cells #[] T)) size (.slice (some ⟨w.heap.size, 0, none⟩) 0 0) 0 [] :=
  ⟨by simp, .inr ⟨w.heap.size, 0, 0, [], rfl, Nat.le_refl _, Nat.zero_le _, by simp, by simp, fun j v hv => by simp at hv⟩⟩
/-- a whole row that is a slice's own -/
theorem Buf.of_row {w : World} {size g off n : Nat} {xs : List Value} (h : Row w g off xs) (hl : xs.length = n * size) (hg : g < w.heap.size) (hn : n ≤ maxLen) : Buf w size (.slice (some ⟨g, off, none⟩) n n) n xs :=
  ⟨hl, .inr ⟨g, off, n, [], rfl, Nat.le_refl _, hn, by simp [hl], hg, by simpa using h⟩⟩

/-- many cells stored from a place on -/
theorem Row.setCells {w : World} {b off : Nat} : ∀ (news : List Value) (i : Nat) {w : World} {vs : List Value}, Row w b off vs → i + news.length ≤ vs.length →
    Row (w.setCells b (off + i) news) b off (vs.take i ++ news ++ vs.drop (i + news.length))
  | [], i, w, vs, h, hl => by simpa [World.setCells] using h
  | v :: r, i, w, vs, h, hl => by
    have h1 := h.set i (by simp at hl; omega) v
    have h2 := Row.setCells (w := w) r (i + 1) h1 (by simp at hl ⊢; omega)
    rw [World.setCells, show off + i + 1 = off + (i + 1) by omega]
    have hi : i < vs.length := by simp at hl; omega
    have e : (vs.set i v).take (i + 1) ++ r ++ (vs.set i v).drop (i + 1 + r.length) = vs.take i ++ v :: r ++ vs.drop (i + (v :: r).length) := by
      have e1 : (vs.set i v).take (i + 1) = vs.take i ++ [v] := by
        rw [List.take_succ_eq_append_getElem (by simpa using hi), List.take_set_of_le (Nat.le_refl _)]
        simp
      have e2 : (vs.set i v).drop (i + 1 + r.length) = vs.drop (i + (v :: r).length) := by
        rw [List.drop_set_of_lt (by omega)]
        rw [show i + 1 + r.length = i + (v :: r).length by simp; omega]
      rw [e1, e2]; simp
    rw [e] at h2
    exact h2
theorem setCells_chg (b : Nat) : ∀ (news : List Value) (o : Nat) (w : World), Chg (· = b) w (w.setCells b o news)
  | [], _, w => Chg.refl _ w
  | v :: r, o, w => Chg.trans (b := w.setCell ⟨b, o, none⟩ v) ((Chg.refl (· = b) w).setCell (p := ⟨b, o, none⟩) (.inr rfl) v) (setCells_chg b r (o + 1) _)

/-- what an append hands back: where its elements lie -/
def SameOrNew (w : World) (v v' : Value) : Prop := v'.ownBlock = v.ownBlock ∨ ∃ g, v'.ownBlock = some g ∧ w.heap.size ≤ g

section
variable {P : Program}
theorem run_append_buf (w : World) (t tx ty e : TypeId) (i : TypeInfo) (z : Value) (size bytes : Nat) (ht : P.underlying t = some (.slice e)) (hi : P.info? e = some i) (hz : i.zero = some z)
    (hsize : i.size = size) (hby : i.bytes = bytes) (hzs : z.cells.size = size) (hsz : 0 < size)
    (v : Value) (n : Nat) (xs : List Value) (hb : Buf w size v n xs) (x : Value) (m : Nat) (news : List Value) (hs : Src P size tx x m news w)
    (h63 : n + m ≤ maxLen) (hbytes : (n + m) * bytes ≤ 140737488355328) :
    ∃ v' w', (Builtin.append_ #[t, tx] ty #[v, x]).run P w = .ok v' w' ∧ Buf w' size v' (n + m) (xs ++ news) ∧ Chg (fun k => v.ownBlock = some k) w w' ∧ SameOrNew w v v' ∧ (v' = .slice none 0 0 → v = .slice none 0 0 ∧ m = 0) := by
  subst hsize
  subst hby
  have hlen : (xs ++ news).length = (n + m) * i.size := by rw [List.length_append, hb.1, hs.newsLen, Nat.add_mul]
  have grown : ∀ (base : Option Addr) (cap : Nat), cap < n + m → (Builtin.firstCells i.size n (.slice base n cap)).run P w.drew = .ok xs.toArray w.drew → v = .slice base n cap →
      ∃ v' w', (Builtin.append_ #[t, tx] ty #[v, x]).run P w = .ok v' w' ∧ Buf w' i.size v' (n + m) (xs ++ news) ∧ Chg (fun k => v.ownBlock = some k) w w' ∧ SameOrNew w v v' ∧ (v' = .slice none 0 0 → v = .slice none 0 0 ∧ m = 0) := by
    intro base cap hcap hold hv
    subst hv
    have hge := grownCap_ge w (n + m) cap e
    have hcm : grownCap w (n + m) cap e ≤ maxLen := grownCap_le_maxLen w (n + m) cap e h63
    have hr := run_append_grow_src (P := P) w t tx ty e i z ht hi hz base n cap xs hold x m news hs hcap (by simp only [maxLen] at h63; omega) (growslice_fits hcap hbytes)
    refine ⟨_, _, hr, Buf.of_owned (base := w.heap.size) (e := e) ⟨hlen, .inr ⟨w.heap.size, _, _, rfl, Nat.le_refl _, heap_alloc_new w.drew _, hge, hcm, ?_, ?_⟩⟩, (Chg.refl _ w).drew.alloc _, .inr ⟨w.heap.size, rfl, Nat.le_refl _⟩, fun h => by cases h⟩
    · simp only [Array.size_append, List.size_toArray, size_zeroCells, hzs, hlen, ← Nat.add_mul]
      congr 1
      omega
    · simp only [Array.toList_append, ← hlen]
      exact List.take_left
  rcases hb.2 with ⟨rfl, rfl⟩ | ⟨g, off, cap, spare, rfl, h1, h2, h3, h4, h5⟩
  · have hx : xs = [] := List.eq_nil_of_length_eq_zero (by simpa using hb.1)
    subst hx
    by_cases hm : m = 0
    · subst hm
      have hn : news = [] := List.eq_nil_of_length_eq_zero (by simpa using hs.newsLen)
      subst hn
      refine ⟨.slice none 0 0, w, ?_, Buf.nil w i.size, Chg.refl _ w, .inl rfl, fun _ => ⟨rfl, rfl⟩⟩
      rcases hs.kind with ⟨e', hk⟩ | hk <;> simp [Builtin.append_, run_underlying ht, run_underlying hk, sizeOf, typeInfo, hi, hs.len, hs.cells]
    · exact grown none 0 (by omega) (run_firstCells_none w.drew i.size 0 0 0) rfl
  · by_cases hroom : n + m ≤ cap
    · have hml : n * i.size + m * i.size ≤ cap * i.size := by rw [← Nat.add_mul]; exact Nat.mul_le_mul_right _ hroom
      have hb1 := hb.1
      have hnl := hs.newsLen
      have hfit : xs.length + news.length ≤ (xs ++ spare).length := by rw [List.length_append]; omega
      have hcell : ∀ j, j < news.length → (w.cell? ⟨g, off + n * i.size + j, none⟩).isSome = true ∧ w.frozen? ⟨g, off + n * i.size + j, none⟩ = false := fun j hj => by
        have hj2 : n * i.size + j < (xs ++ spare).length := by omega
        have := h5 (n * i.size + j) (xs ++ spare)[n * i.size + j] (by simp [hj2])
        rw [← Nat.add_assoc] at this
        exact ⟨by rw [this.1]; rfl, this.2⟩
      have hr := run_append_room_src (P := P) w t tx ty e i ht hi g off n cap x m news hs hroom (fun j hj => (hcell j hj).1) (fun j hj => (hcell j hj).2)
      have hrow := Row.setCells (w := w) news (n * i.size) h5 (by rw [← hb1]; exact hfit)
      have e1 : (xs ++ spare).take (n * i.size) = xs := by rw [← hb1]; exact List.take_left
      have e2 : (xs ++ spare).drop (n * i.size + news.length) = spare.drop news.length := by
        rw [← hb1, List.drop_append]
        simp
      rw [e1, e2] at hrow
      have hc := setCells_chg g news (off + n * i.size) w
      refine ⟨_, _, hr, ⟨hlen, .inr ⟨g, off, cap, spare.drop news.length, rfl, hroom, h2, ?_, Nat.lt_of_lt_of_le h4 hc.size, hrow⟩⟩, hc.mono (fun k _ hk => by subst hk; rfl), .inl rfl, fun h => by cases h⟩
      rw [List.length_append] at hfit ⊢
      rw [List.length_drop]
      omega
    · refine grown (some ⟨g, off, none⟩) cap (by omega) ?_ rfl
      exact run_firstCells_some w.drew i.size n ⟨g, off, none⟩ n cap xs hb.1 (fun j u hu => by
        have hadd : (⟨g, off, none⟩ : Addr).add j = ⟨g, off + j, none⟩ := by unfold Addr.add; split <;> simp_all
        rw [hadd]
        have hj : j < xs.length := by
          by_cases hj : j < xs.length
          · exact hj
          · rw [List.getElem?_eq_none (by omega)] at hu; cases hu
        exact (h5 j u (by rw [List.getElem?_append_left hj]; exact hu)).1)
theorem wpList_append_buf {w : World} {ops : Array Oper} {rest : List Oper} {o : Oper} {a : Act} {Q : Exit → Act → World → Prop} (hgd : o.guard = none) (s x : Operand) (t tx : TypeId)
    (ho : o.op = .call { callee := .builtin .append, args := #[s, x], argTypes := #[t, tx] })
    (e : TypeId) (i : TypeInfo) (z : Value) (size bytes : Nat) (ht : P.underlying t = some (.slice e)) (hi : P.info? e = some i) (hz : i.zero = some z)
    (hsize : i.size = size) (hby : i.bytes = bytes) (hzs : z.cells.size = size) (hsz : 0 < size)
    (v : Value) (n : Nat) (xs : List Value) (hv : a.eval s = v) (hb : Buf w size v n xs) (xv : Value) (hx : a.eval x = xv) (m : Nat) (news : List Value) (hs : Src P size tx xv m news w)
    (h63 : n + m ≤ maxLen) (hbytes : (n + m) * bytes ≤ 140737488355328)
    (h : ∀ v' w', Buf w' size v' (n + m) (xs ++ news) → Chg (fun k => v.ownBlock = some k) w w' → SameOrNew w v v' → (v' = .slice none 0 0 → v = .slice none 0 0 ∧ m = 0) → wpList P ops Q rest (a.put o.dst v') w') : wpList P ops Q (o :: rest) a w := by
  refine wpList_plain hgd fun K hK => ?_
  obtain ⟨v', w', hr, h1, h2, h3, h4⟩ := run_append_buf (P := P) w t tx o.type e i z size bytes ht hi hz hsize hby hzs hsz v n xs hb xv m news hs h63 hbytes
  subst hv hx
  unfold Oper.wp
  simp [execOp, ho, resolve, invoke, builtin, hr, Result.andThen]
  exact hK _ _ (h v' w' h1 h2 h3 h4)
end
theorem Src.row {P : Program} {w : World} {size : Nat} {tx e' : TypeId} (hk : P.underlying tx = some (.slice e')) {g off n c : Nat} {news : List Value} (hl : news.length = n * size) (hr : Row w g off news) (h1 : ∀ u ∈ news, u.oneCell' = true) :
    Src P size tx (.slice (some ⟨g, off, none⟩) n c) n news w :=
  Src.ofSlice w hk ⟨g, off, none⟩ n c news hl (fun j u hu => by
    have hadd : (⟨g, off, none⟩ : Addr).add j = ⟨g, off + j, none⟩ := by unfold Addr.add; split <;> simp_all
    rw [hadd]; exact (hr j u hu).1) h1

/-! a whole array, or struct, stored over a row -/
theorem Row.whole {w : World} {b off : Nat} {olds cs : List Value} (h : Row w b off olds) (hl : cs.length = olds.length) : Row (w.setCells b off cs) b off cs := by
  have := Row.setCells (w := w) cs 0 h (by omega)
  simp only [Nat.add_zero, List.take_zero, List.nil_append, Nat.zero_add] at this
  rwa [List.drop_eq_nil_of_le (by omega), List.append_nil] at this
section
variable {P : Program}
theorem run_storeVar_row (w : World) (g off : Nat) (T : TypeId) (olds cs : List Value) (hg : Row w g off olds) (hl : cs.length = olds.length) (hi : (P.info? T).map (·.size) = some cs.length) (h1 : ∀ v ∈ cs, v.oneCell' = true) :
    (storeVar T ⟨g, off, none⟩ (.agg cs.toArray)).run P w = .ok () (w.setCells g off cs) := by
  have hst := run_storeCells_cells (P := P) g off cs 0 w (fun j hj => by
      rw [Nat.add_zero]
      have := hg j olds[j] (by simp)
      rw [this.1]; rfl) (fun j hj => by
      rw [Nat.add_zero]
      exact (hg j olds[j] (by simp)).2) h1
  simp only [Nat.add_zero] at hst
  cases hq : P.info? T with
  | none => simp [hq] at hi
  | some x =>
    have hx : x.size = cs.length := by simpa [hq] using hi
    simp [storeVar, Value.cells, sizeOf, typeInfo, hq, hx, hst]
theorem wpList_store_row {w : World} {ops : Array Oper} {rest : List Oper} {o : Oper} {a : Act} {Q : Exit → Act → World → Prop} (hgd : o.guard = none) (T : TypeId) (x y : Operand) (ho : o.op = .store T x y)
    (g off : Nat) (hx : a.eval x = .pointer (some ⟨g, off, none⟩)) (olds cs : List Value) (hy : a.eval y = .agg cs.toArray) (hg : Row w g off olds) (hl : cs.length = olds.length)
    (hi : (P.info? T).map (·.size) = some cs.length) (h1 : ∀ v ∈ cs, v.oneCell' = true)
    (h : ∀ w', Row w' g off cs → Chg (· = g) w w' → wpList P ops Q rest (a.put o.dst undef) w') : wpList P ops Q (o :: rest) a w :=
  wpList_plain hgd fun _ hK => by
    unfold Oper.wp execOp
    simp only [ho, hx, hy, Instr.storeAt, Instr.sureAddr, Sem.run_bind, Sem.run_pure, Result.andThen_ok, run_storeVar_row w g off T olds cs hg hl hi h1]
    exact hK _ _ (h _ (hg.whole hl) (setCells_chg _ _ _ _))
end

/-! make([]T, n), elements of one cell -/
theorem madeCells_one (z : Value) (n : Nat) : madeCells #[z] n = (List.replicate n z).toArray := by
  apply Array.ext
  · simp [madeCells]
  · intro i h1 h2
    simp [madeCells, Nat.mod_one]
section
variable {P : Program}
theorem wpList_make_row {w : World} {ops : Array Oper} {rest : List Oper} {o : Oper} {a : Act} {Q : Exit → Act → World → Prop} (hgd : o.guard = none) (t : TypeId) (x y : Operand) (ho : o.op = .makeSlice t x y)
    (e : TypeId) (i : TypeInfo) (z : Value) (bytes : Nat) (ht : P.underlying t = some (.slice e)) (hi : P.info? e = some i) (hz : i.zero = some z) (hs : i.size = 1) (hby : i.bytes = bytes) (hzc : z.cells = #[z])
    (kl kc : IntKind) (c : Int) (n : Nat) (hx : a.eval x = .int kl c) (hy : a.eval y = .int kc c) (hc : c = (n : Int)) (hbytes : bytes * n ≤ 281474976710656) (h63 : n ≤ maxLen)
    (h : ∀ w', Row w' w.heap.size 0 (List.replicate n z) → Keeps w w' → w.heap.size < w'.heap.size → wpList P ops Q rest (a.put o.dst (.slice (some ⟨w.heap.size, 0, none⟩) n n)) w') : wpList P ops Q (o :: rest) a w :=
  wpList_plain hgd fun _ hK => by
    subst hby hc
    have hr := run_make (P := P) w t e i z ht hi hz kl kc (n : Int) (n : Int) (by omega) (Int.le_refl _) (by omega) (by simp only [maxLen] at h63; omega)
    simp only [Int.toNat_natCast, hs, Nat.mul_one, hzc, madeCells_one] at hr
    unfold Oper.wp execOp
    simp only [ho, hx, hy, Sem.run_bind, Sem.run_pure, Result.andThen_ok, hr]
    exact hK _ _ (h _ (Row.new _ _ _ rfl) ((Keeps.refl w).alloc (Nat.le_refl _) _) (by simp))
end

/-- a slice that may be read -/
def Rd (w : World) (size : Nat) (v : Value) (n : Nat) (xs : List Value) : Prop :=
  xs.length = n * size ∧ ∃ a cap, v = .slice a n cap ∧ n ≤ cap ∧ cap ≤ maxLen ∧ (a = none → n = 0 ∧ cap = 0) ∧ (∀ ad, a = some ad → 0 < n → ∃ g off, ad = ⟨g, off, none⟩ ∧ g < w.heap.size ∧ Row w g off xs)
theorem Buf.rd {w : World} {size : Nat} {v : Value} {n : Nat} {xs : List Value} (h : Buf w size v n xs) : Rd w size v n xs := by
  obtain ⟨a, cap, h1, h2, h3, h4, h5⟩ := h.any
  exact ⟨h.1, a, cap, h1, h2, h3, h4, fun ad e _ => h5 ad e⟩
theorem Rd.chg {S : Nat → Prop} {w w' : World} {size : Nat} {v : Value} {n : Nat} {xs : List Value} (h : Rd w size v n xs) (hc : Chg S w w') (hs : ∀ g, v.ownBlock = some g → ¬ S g) : Rd w' size v n xs := by
  obtain ⟨h0, a, cap, rfl, h2, h3, h4, h5⟩ := h
  refine ⟨h0, a, cap, rfl, h2, h3, h4, fun ad e hn => ?_⟩
  obtain ⟨g, off, e2, hg, hr⟩ := h5 ad e hn
  subst e e2
  exact ⟨g, off, rfl, Nat.lt_of_lt_of_le hg hc.size, hr.chg hc (hs g rfl)⟩
theorem Rd.keeps {w w' : World} {size : Nat} {v : Value} {n : Nat} {xs : List Value} (h : Rd w size v n xs) (hc : Keeps w w') : Rd w' size v n xs := h.chg (hc.chg (fun _ => False)) (fun _ _ h => h)
theorem Rd.of_row {w : World} {size g off n cap : Nat} {xs : List Value} (h : Row w g off xs) (hl : xs.length = n * size) (hg : g < w.heap.size) (hn : n ≤ cap) (hc : cap ≤ maxLen) : Rd w size (.slice (some ⟨g, off, none⟩) n cap) n xs :=
  ⟨hl, _, _, rfl, hn, hc, fun h => (by cases h), fun ad e _ => ⟨g, off, (Option.some.inj e).symm, hg, h⟩⟩
theorem Rd.src {P : Program} {w : World} {size : Nat} {v : Value} {n : Nat} {xs : List Value} (h : Rd w size v n xs) {tx e' : TypeId} (hk : P.underlying tx = some (.slice e')) (h1 : ∀ u ∈ xs, u.oneCell' = true) : Src P size tx v n xs w := by
  obtain ⟨h0, a, cap, rfl, h2, h3, h4, h5⟩ := h
  cases a with
  | none =>
    obtain ⟨rfl, rfl⟩ := h4 rfl
    have hx : xs = [] := List.eq_nil_of_length_eq_zero (by simpa using h0)
    subst hx
    exact Src.ofNil w hk 0
  | some ad =>
    by_cases hn : n = 0
    · subst hn
      have hx : xs = [] := List.eq_nil_of_length_eq_zero (by simpa using h0)
      subst hx
      exact Src.ofSlice w hk ad 0 cap [] (by simp) (fun j u hu => by simp at hu) h1
    · obtain ⟨g, off, rfl, _, hr⟩ := h5 ad rfl (by omega)
      exact Src.row hk h0 hr h1

/-- a whole array stored over a part of a row -/
theorem wpList_store_into {P : Program} {w : World} {ops : Array Oper} {rest : List Oper} {o : Oper} {a : Act} {Q : Exit → Act → World → Prop} (hgd : o.guard = none) (T : TypeId) (x y : Operand) (ho : o.op = .store T x y)
    (g base i : Nat) (hx : a.eval x = .pointer (some ⟨g, base + i, none⟩)) (vs cs : List Value) (hy : a.eval y = .agg cs.toArray) (hg : Row w g base vs) (hl : i + cs.length ≤ vs.length)
    (hi : (P.info? T).map (·.size) = some cs.length) (h1 : ∀ v ∈ cs, v.oneCell' = true)
    (h : ∀ w', Row w' g base (vs.take i ++ cs ++ vs.drop (i + cs.length)) → Chg (· = g) w w' → wpList P ops Q rest (a.put o.dst undef) w') : wpList P ops Q (o :: rest) a w :=
  wpList_plain hgd fun _ hK => by
    have hg' : Row w g (base + i) ((vs.drop i).take cs.length) := (hg.drop i).take _
    unfold Oper.wp execOp
    simp only [ho, hx, hy, Instr.storeAt, Instr.sureAddr, Sem.run_bind, Sem.run_pure, Result.andThen_ok, run_storeVar_row w g (base + i) T _ cs hg' (by simp; omega) hi h1]
    exact hK _ _ (h _ (Row.setCells (w := w) cs i hg hl) (setCells_chg _ _ _ _))
/-- the rest of a slice -/
theorem Buf.tail {w : World} {g off n cap k : Nat} {xs : List Value} (h : Buf w 1 (.slice (some ⟨g, off, none⟩) n cap) n xs) (hk : k ≤ n) : Buf w 1 (.slice (some ⟨g, off + k, none⟩) (n - k) (cap - k)) (n - k) (xs.drop k) := by
  have h0 := h.1
  rcases h.2 with ⟨hv, _⟩ | ⟨g', off', cap', spare, hv, h1, h2, h3, h4, h5⟩
  · cases hv
  · cases hv
    refine ⟨by rw [List.length_drop]; omega, .inr ⟨g, off + k, cap - k, spare, rfl, by omega, by omega, by rw [List.length_drop]; omega, h4, ?_⟩⟩
    have := h5.drop k
    rwa [List.drop_append_of_le_length (by omega)] at this
theorem Buf.tail_all {w : World} {g off n : Nat} {xs : List Value} (h : Buf w 1 (.slice (some ⟨g, off, none⟩) n n) n xs) : Buf w 1 (.slice (some ⟨g, off, none⟩) 0 0) 0 (xs.drop n) := by
  have h0 := h.1
  rcases h.2 with ⟨hv, _⟩ | ⟨g', off', cap', spare, hv, h1, h2, h3, h4, h5⟩
  · cases hv
  · cases hv
    refine ⟨by rw [List.length_drop]; omega, .inr ⟨g, off, 0, [], rfl, Nat.le_refl _, Nat.zero_le _, by rw [List.length_drop]; simp; omega, h4, ?_⟩⟩
    rw [List.drop_eq_nil_of_le (by omega)]
    intro j v hv; simp at hv
theorem wp_gen {P : Program} {c : Code} {Q : Exit → Act → World → Prop} {a : Act} {E : World} (I : World → Prop) (hE : I E) (h : ∀ W, I W → Code.wp P c Q a W) : Code.wp P c Q a E := h E hE
end Go.Proofs.YtcodpdpeklammaaGreatDoor
