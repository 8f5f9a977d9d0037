/- Small words used by all my walks: worlds up to draws (Qt), endings, hiding. No condition. | Rotations of 32 bits: what bits.RotateLeft32, hash.right and the reference's rot hand back. The count is between 1 and 31. | SHA-256 on lists of numbers, as the walks spell it. Plain: no program. -/
import Derived.WalkKit
import Derived.Deep.QuietTactic
import Derived.BigQuiet
import Derived.Lib.Hide
import Derived.WalkSpells
import Derived.WalkLawsBesides
import Derived.WalkSmall
import Derived.Test.YtajipagpdphejaaProg
namespace Go.Proofs.Ytajipagpdphejaa
set_option linter.unusedVariables false
set_option linter.unusedSimpArgs false
open Go Go.RowKit

theorem ret_bool {a b : Bool} (h : a = b) : Ending.returned (.bool a) = .returned (.bool b) := by rw [h]
/-- the world after some draws -/
def Qt (w w' : World) : Prop := ∃ n, w' = w.drewN n
theorem Qt.refl (w : World) : Qt w w := ⟨0, rfl⟩
theorem Qt.drewN (w : World) (n : Nat) : Qt w (w.drewN n) := ⟨n, rfl⟩
theorem Qt.trans {a b c : World} (h : Qt a b) (k : Qt b c) : Qt a c := by
  obtain ⟨n, rfl⟩ := h; obtain ⟨m, rfl⟩ := k; exact ⟨n + m, World.drewN_drewN _ _ _⟩
theorem Qt.below {a b : World} (h : Qt a b) (B : Nat) : Below B a b := by
  obtain ⟨n, rfl⟩ := h; exact ⟨rfl, rfl, rfl, Nat.le_refl _, fun _ _ => rfl⟩
theorem Qt.size {a b : World} (h : Qt a b) : b.heap.size = a.heap.size := by
  obtain ⟨n, rfl⟩ := h; rfl

/-- everything that was there stays -/
abbrev Keeps (w w' : World) : Prop := Below w.heap.size w w'
theorem Keeps.refl (w : World) : Keeps w w := Below.refl _ _
theorem Keeps.trans {a b c : World} (h : Keeps a b) (k : Keeps b c) : Keeps a c := Below.trans h (Below.mono k h.size)
theorem Qt.keeps {a b : World} (h : Qt a b) : Keeps a b := h.below _

/-- cells from 'off' on hold these integers -/
def IntsAt (k : IntKind) (w : World) (b off : Nat) (zs : List Int) : Prop := ∀ i, i < zs.length → w.cell? ⟨b, off + i, none⟩ = some (.int k (zs.getD i 0))
/-- a slice (its address) reads as these integers: nothing is said where there is none -/
def SlInts (k : IntKind) (w : World) (a : Option Addr) (zs : List Int) : Prop := zs ≠ [] → ∃ b off, a = some ⟨b, off, none⟩ ∧ b < w.heap.size ∧ IntsAt k w b off zs
theorem SlInts.keeps {k : IntKind} {w w' : World} {a : Option Addr} {zs : List Int} (h : SlInts k w a zs) (hb : Keeps w w') : SlInts k w' a zs := by
  intro hz
  obtain ⟨b, off, rfl, hlt, hc⟩ := h hz
  exact ⟨b, off, rfl, Nat.lt_of_lt_of_le hlt hb.size, fun i hi => (hb.cell (p := ⟨b, off + i, none⟩) hlt).trans (hc i hi)⟩
theorem SlInts.take {k : IntKind} {w : World} {a : Option Addr} {zs : List Int} (h : SlInts k w a zs) (n : Nat) : SlInts k w a (zs.take n) := by
  intro hz
  obtain ⟨b, off, rfl, hlt, hc⟩ := h (by intro e; subst e; simp at hz)
  refine ⟨b, off, rfl, hlt, fun i hi => ?_⟩
  have hi' : i < zs.length := by simp at hi; omega
  have hin : i < n := by simp at hi; omega
  rw [hc i hi']
  simp [List.getD, hin]
theorem int_oneCell {k : IntKind} (zs : List Int) : ∀ u ∈ zs.map (Value.int k), u.oneCell' = true := by
  intro u hu
  obtain ⟨z, _, rfl⟩ := List.mem_map.1 hu
  rfl
theorem SlInts.news {k : IntKind} {w : World} {x : Addr} {zs : List Int} (h : SlInts k w (some x) zs) : ∀ (j : Nat) (u : Value), (zs.map (Value.int k))[j]? = some u → w.cell? (x.add j) = some u := by
  intro j u hu
  have hj : j < zs.length := by
    by_cases hj : j < zs.length
    · exact hj
    · rw [List.getElem?_eq_none (by simpa using hj)] at hu; cases hu
  obtain ⟨b, off, hx, _, hc⟩ := h (by intro e; subst e; simp at hj)
  obtain rfl : x = ⟨b, off, none⟩ := Option.some.inj hx
  have hadd : (⟨b, off, none⟩ : Addr).add j = ⟨b, off + j, none⟩ := by unfold Addr.add; split <;> simp_all
  rw [hadd, hc j hj]
  simp [hj] at hu
  rw [← hu]; simp [List.getD, hj]

/-- from a row of integers that came in -/
theorem SlInts.of_row {k : IntKind} {w : World} {x : Addr} {len : Nat} {zs : List Int} (hl : len ≤ zs.length) (hcell : ∀ i, i < zs.length → w.cell? (x.add i) = some (.int k (zs.getD i 0))) :
    SlInts k w (some x) (zs.take len) ∧ (zs.take len).length = len := by
  refine ⟨SlInts.take (fun hz => ?_) len, by simp; omega⟩
  have h0 : 0 < zs.length := by cases zs with | nil => exact absurd rfl hz | cons _ _ => simp
  obtain ⟨b, off, spot⟩ := x
  have hc := hcell 0 h0
  have hspot : spot = none := by simpa [Addr.add] using World.cell?_spot hc
  subst hspot
  refine ⟨b, off, rfl, by simpa [Addr.add] using World.block_lt_of_cell? w _ hc, fun i hi => ?_⟩
  have := hcell i hi
  have hadd : (⟨b, off, none⟩ : Addr).add i = ⟨b, off + i, none⟩ := by unfold Addr.add; split <;> simp_all
  rwa [hadd] at this

/-! a callee's contract inside a quiet region: the world stays (s), or it draws (q); the first quiet region (1), or one behind another (2) -/
section
variable {P : Program} {f : FuncId} {args : Array Value} {w : World} {a n : Nat} {v : Value}
theorem q1 (h : Calls P f args (w.drewN n) fun e w' => e = .returned v ∧ Qt (w.drewN n) w') : Calls P f args (w.drewN n) fun e w'' => e = .returned v ∧ ∃ m, w'' = w.drewN m :=
  h.mono fun _ _ ⟨he, m, hm⟩ => ⟨he, n + m, by rw [hm, World.drewN_drewN]⟩
theorem q2 (h : Calls P f args (w.drewN (a + n)) fun e w' => e = .returned v ∧ Qt (w.drewN (a + n)) w') : Calls P f args (w.drewN (a + n)) fun e w'' => e = .returned v ∧ ∃ m, w'' = w.drewN (a + m) :=
  h.mono fun _ _ ⟨he, m, hm⟩ => ⟨he, n + m, by rw [hm, World.drewN_drewN, Nat.add_assoc]⟩
theorem s1 (h : Calls P f args (w.drewN n) fun e w' => e = .returned v ∧ w.drewN n = w') : Calls P f args (w.drewN n) fun e w'' => e = .returned v ∧ ∃ m, w'' = w.drewN m :=
  h.mono fun _ _ ⟨he, hm⟩ => ⟨he, n, hm.symm⟩
theorem s2 (h : Calls P f args (w.drewN (a + n)) fun e w' => e = .returned v ∧ w.drewN (a + n) = w') : Calls P f args (w.drewN (a + n)) fun e w'' => e = .returned v ∧ ∃ m, w'' = w.drewN (a + m) :=
  h.mono fun _ _ ⟨he, hm⟩ => ⟨he, n, hm.symm⟩
end
end Go.Proofs.Ytajipagpdphejaa
namespace Go.Proofs.Ytajipagpdphejaa
set_option linter.unusedVariables false
set_option linter.unusedSimpArgs false
open Go Go.RowKit

/-- a word of 32 bits -/
def W32 (x : Int) : Prop := 0 ≤ x ∧ x < 4294967296
/-- rotated to the right, as the walk spells it -/
def ror (x : Int) (n : Nat) : Int := bits .or .u32 (x * 2 ^ (32 - n) % 4294967296) (x / 2 ^ n)
def Byte (x : Int) : Prop := 0 ≤ x ∧ x < 256
def Bytes (l : List Int) : Prop := ∀ x ∈ l, Byte x
theorem Bytes.getD {l : List Int} (h : Bytes l) (j : Nat) : Byte (l.getD j 0) := by
  by_cases hj : j < l.length
  · have : l.getD j 0 = l[j] := by simp [hj]
    rw [this]; exact h _ (List.getElem_mem hj)
  · have : l.getD j 0 = 0 := by simp [List.getD, List.getElem?_eq_none (by omega : l.length ≤ j)]
    rw [this]; exact ⟨by omega, by omega⟩
def Words (l : List Int) : Prop := ∀ x ∈ l, W32 x
theorem Words.getD {l : List Int} (h : Words l) (j : Nat) : W32 (l.getD j 0) := by
  by_cases hj : j < l.length
  · have : l.getD j 0 = l[j] := by simp [hj]
    rw [this]; exact h _ (List.getElem_mem hj)
  · have : l.getD j 0 = 0 := by simp [List.getD, List.getElem?_eq_none (by omega : l.length ≤ j)]
    rw [this]; exact ⟨by omega, by omega⟩
/-- four bytes, the greatest first -/
def word (l : List Int) (i : Nat) : Int := bits .or .u32 (bits .or .u32 (bits .or .u32 (l.getD (4 * i) 0 * 16777216) (l.getD (4 * i + 1) 0 * 65536)) (l.getD (4 * i + 2) 0 * 256)) (l.getD (4 * i + 3) 0)
def bsig1 (e : Int) : Int := bits .xor .u32 (bits .xor .u32 (ror e 6) (ror e 11)) (ror e 25)
def bsig0 (a : Int) : Int := bits .xor .u32 (bits .xor .u32 (ror a 2) (ror a 13)) (ror a 22)
def chf (e f g : Int) : Int := bits .xor .u32 (bits .and .u32 e f) (bits .and .u32 (bits .xor .u32 IntKind.u32.max e) g)
def majf (a b c : Int) : Int := bits .xor .u32 (bits .xor .u32 (bits .and .u32 a b) (bits .and .u32 a c)) (bits .and .u32 b c)
structure St where
  (a b c d e f g h : Int)
def St.list (s : St) : List Int := [s.a, s.b, s.c, s.d, s.e, s.f, s.g, s.h]
def St.ok (s : St) : Prop := W32 s.a ∧ W32 s.b ∧ W32 s.c ∧ W32 s.d ∧ W32 s.e ∧ W32 s.f ∧ W32 s.g ∧ W32 s.h
def tone (s : St) (k x : Int) : Int := (s.h + bsig1 s.e + chf s.e s.f s.g + k + x) % 4294967296
def ttwo (s : St) : Int := (bsig0 s.a + majf s.a s.b s.c) % 4294967296
def St.round (s : St) (k x : Int) : St := ⟨(tone s k x + ttwo s) % 4294967296, s.a, s.b, s.c, (s.d + tone s k x) % 4294967296, s.e, s.f, s.g⟩
end Go.Proofs.Ytajipagpdphejaa
