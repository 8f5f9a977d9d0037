/- Small words used by all my walks: worlds up to draws (Qt), endings, hiding. No condition. | Rotations of 32 bits: what bits.RotateLeft32, hash.right and the reference's rot hand back. The count is between 1 and 31. | SHA-256 on lists of numbers, as the walks spell it. Plain: no program. | Words on memory used by my walks: a row of cells from a place on (Row), a change of some blocks alone (Chg), whole arrays read out of a row. No condition. | A region that draws its order, whose operations but the last ones (in one forced order) are quiet: the first ones are walked once, in the order of the text; then the last ones as a plain list. (The kit's StillTail, at the class of worlds of its Quiet.) No condition. -/
import Derived.WalkKit
import Derived.Deep.QuietTactic
import Derived.BigQuiet
import Derived.Lib.Hide
import Derived.WalkSpells
import Derived.WalkLawsBesides
import Derived.WalkSmall
import Derived.Test.YtlofddoojkeakaaDoorProg
import Derived.Laws.Rows
import Derived.StillTail
namespace Go.Proofs.YtlofddoojkeakaaDoor
set_option linter.unusedVariables false
set_option linter.unusedSimpArgs false
open Go Go.RowKit

theorem ret_bool {a b : Bool} (h : a = b) : Ending.returned (.bool a) = .returned (.bool b) := by rw [h]
theorem ret_int {k : IntKind} {a b : Int} (h : a = b) : Ending.returned (.int k a) = .returned (.int k b) := by rw [h]

/-- the world after some draws -/
def Qt (w w' : World) : Prop := ∃ n, w' = w.drewN n
theorem Qt.refl (w : World) : Qt w w := ⟨0, rfl⟩
theorem Qt.drewN (w : World) (n : Nat) : Qt w (w.drewN n) := ⟨n, rfl⟩
theorem Qt.trans {a b c : World} (h : Qt a b) (k : Qt b c) : Qt a c := by
  obtain ⟨n, rfl⟩ := h; obtain ⟨m, rfl⟩ := k; exact ⟨n + m, World.drewN_drewN _ _ _⟩
theorem Qt.below {a b : World} (h : Qt a b) (B : Nat) : Below B a b := by
  obtain ⟨n, rfl⟩ := h; exact ⟨rfl, rfl, rfl, Nat.le_refl _, fun _ _ => rfl⟩
theorem Qt.size {a b : World} (h : Qt a b) : b.heap.size = a.heap.size := by
  obtain ⟨n, rfl⟩ := h; rfl

/-- everything that was there stays -/
abbrev Keeps (w w' : World) : Prop := Below w.heap.size w w'
theorem Keeps.refl (w : World) : Keeps w w := Below.refl _ _
theorem Keeps.trans {a b c : World} (h : Keeps a b) (k : Keeps b c) : Keeps a c := Below.trans h (Below.mono k h.size)
theorem Qt.keeps {a b : World} (h : Qt a b) : Keeps a b := h.below _

/-- what an owned row of one-cell elements is, once it isn't nil -/
theorem owned_out {w : World} {base : Nat} {e : TypeId} {v : Value} {n : Nat} {xs : List Value} (h : w.ownsRow base e 1 v n xs) (hv : v ≠ .slice none 0 0) :
    ∃ g cap, v = .slice (some ⟨g, 0, none⟩) n cap ∧ base ≤ g ∧ g < w.heap.size ∧ n ≤ cap ∧ cap ≤ maxLen ∧ xs.length = n ∧ (∀ i u, xs[i]? = some u → w.cell? ⟨g, i, none⟩ = some u ∧ w.frozen? ⟨g, i, none⟩ = false) := by
  rcases h.2 with ⟨rfl, _⟩ | ⟨g, cap, cur, rfl, hb, hg, hnc, hcm, hcs, htake⟩
  · exact absurd rfl hv
  · refine ⟨g, cap, rfl, hb, (Array.getElem?_eq_some_iff.1 hg).1, hnc, hcm, by simpa using h.1, fun i u hu => ?_⟩
    have hc := h.cells (g := g) rfl i u hu
    have hadd : (⟨g, 0, none⟩ : Addr).add i = ⟨g, i, none⟩ := by unfold Addr.add; split <;> simp_all
    rw [hadd] at hc
    refine ⟨hc, ?_⟩
    simp [World.frozen?, hg]

/-- cells from 'off' on hold these integers -/
def IntsAt (k : IntKind) (w : World) (b off : Nat) (zs : List Int) : Prop := ∀ i, i < zs.length → w.cell? ⟨b, off + i, none⟩ = some (.int k (zs.getD i 0))
/-- a slice (its address) reads as these integers: nothing is said where there is none -/
def SlInts (k : IntKind) (w : World) (a : Option Addr) (zs : List Int) : Prop := zs ≠ [] → ∃ b off, a = some ⟨b, off, none⟩ ∧ b < w.heap.size ∧ IntsAt k w b off zs
theorem SlInts.keeps {k : IntKind} {w w' : World} {a : Option Addr} {zs : List Int} (h : SlInts k w a zs) (hb : Keeps w w') : SlInts k w' a zs := by
  intro hz
  obtain ⟨b, off, rfl, hlt, hc⟩ := h hz
  exact ⟨b, off, rfl, Nat.lt_of_lt_of_le hlt hb.size, fun i hi => (hb.cell (p := ⟨b, off + i, none⟩) hlt).trans (hc i hi)⟩
theorem SlInts.take {k : IntKind} {w : World} {a : Option Addr} {zs : List Int} (h : SlInts k w a zs) (n : Nat) : SlInts k w a (zs.take n) := by
  intro hz
  obtain ⟨b, off, rfl, hlt, hc⟩ := h (by intro e; subst e; simp at hz)
  refine ⟨b, off, rfl, hlt, fun i hi => ?_⟩
  have hi' : i < zs.length := by simp at hi; omega
  have hin : i < n := by simp at hi; omega
  rw [hc i hi']
  simp [List.getD, hin]
theorem SlInts.of_owned {k : IntKind} {w : World} {base : Nat} {e : TypeId} {v : Value} {n : Nat} {zs : List Int} (h : w.ownsRow base e 1 v n (zs.map (Value.int k))) (hv : v ≠ .slice none 0 0) :
    ∃ a cap, v = .slice a n cap ∧ SlInts k w a zs ∧ zs.length = n := by
  obtain ⟨g, cap, rfl, _, hlt, _, _, hl, hc⟩ := owned_out h hv
  refine ⟨_, _, rfl, fun hz => ⟨g, 0, rfl, hlt, fun i hi => ?_⟩, by simpa using hl⟩
  rw [Nat.zero_add]
  refine (hc i _ ?_).1
  simp [List.getD, hi]
theorem int_oneCell {k : IntKind} (zs : List Int) : ∀ u ∈ zs.map (Value.int k), u.oneCell' = true := by
  intro u hu
  obtain ⟨z, _, rfl⟩ := List.mem_map.1 hu
  rfl
theorem SlInts.news {k : IntKind} {w : World} {x : Addr} {zs : List Int} (h : SlInts k w (some x) zs) : ∀ (j : Nat) (u : Value), (zs.map (Value.int k))[j]? = some u → w.cell? (x.add j) = some u := by
  intro j u hu
  have hj : j < zs.length := by
    by_cases hj : j < zs.length
    · exact hj
    · rw [List.getElem?_eq_none (by simpa using hj)] at hu; cases hu
  obtain ⟨b, off, hx, _, hc⟩ := h (by intro e; subst e; simp at hj)
  obtain rfl : x = ⟨b, off, none⟩ := Option.some.inj hx
  have hadd : (⟨b, off, none⟩ : Addr).add j = ⟨b, off + j, none⟩ := by unfold Addr.add; split <;> simp_all
  rw [hadd, hc j hj]
  simp [hj] at hu
  rw [← hu]; simp [List.getD, hj]

/-- from a row of integers that came in -/
theorem SlInts.of_row {k : IntKind} {w : World} {x : Addr} {len : Nat} {zs : List Int} (hl : len ≤ zs.length) (hcell : ∀ i, i < zs.length → w.cell? (x.add i) = some (.int k (zs.getD i 0))) :
    SlInts k w (some x) (zs.take len) ∧ (zs.take len).length = len := by
  refine ⟨SlInts.take (fun hz => ?_) len, by simp; omega⟩
  have h0 : 0 < zs.length := by cases zs with | nil => exact absurd rfl hz | cons _ _ => simp
  obtain ⟨b, off, spot⟩ := x
  have hc := hcell 0 h0
  have hspot : spot = none := by simpa [Addr.add] using World.cell?_spot hc
  subst hspot
  refine ⟨b, off, rfl, by simpa [Addr.add] using World.block_lt_of_cell? w _ hc, fun i hi => ?_⟩
  have := hcell i hi
  have hadd : (⟨b, off, none⟩ : Addr).add i = ⟨b, off + i, none⟩ := by unfold Addr.add; split <;> simp_all
  rwa [hadd] at this

/-! a callee's contract inside a quiet region: the world stays (s), or it draws (q); the first quiet region (1), or one behind another (2) -/
section
variable {P : Program} {f : FuncId} {args : Array Value} {w : World} {a n : Nat} {v : Value}
theorem q1 (h : Calls P f args (w.drewN n) fun e w' => e = .returned v ∧ Qt (w.drewN n) w') : Calls P f args (w.drewN n) fun e w'' => e = .returned v ∧ ∃ m, w'' = w.drewN m :=
  h.mono fun _ _ ⟨he, m, hm⟩ => ⟨he, n + m, by rw [hm, World.drewN_drewN]⟩
theorem q2 (h : Calls P f args (w.drewN (a + n)) fun e w' => e = .returned v ∧ Qt (w.drewN (a + n)) w') : Calls P f args (w.drewN (a + n)) fun e w'' => e = .returned v ∧ ∃ m, w'' = w.drewN (a + m) :=
  h.mono fun _ _ ⟨he, m, hm⟩ => ⟨he, n + m, by rw [hm, World.drewN_drewN, Nat.add_assoc]⟩
theorem s1 (h : Calls P f args (w.drewN n) fun e w' => e = .returned v ∧ w.drewN n = w') : Calls P f args (w.drewN n) fun e w'' => e = .returned v ∧ ∃ m, w'' = w.drewN m :=
  h.mono fun _ _ ⟨he, hm⟩ => ⟨he, n, hm.symm⟩
theorem s2 (h : Calls P f args (w.drewN (a + n)) fun e w' => e = .returned v ∧ w.drewN (a + n) = w') : Calls P f args (w.drewN (a + n)) fun e w'' => e = .returned v ∧ ∃ m, w'' = w.drewN (a + m) :=
  h.mono fun _ _ ⟨he, hm⟩ => ⟨he, n, hm.symm⟩
end
end Go.Proofs.YtlofddoojkeakaaDoor
namespace Go.Proofs.YtlofddoojkeakaaDoor
set_option linter.unusedVariables false
set_option linter.unusedSimpArgs false
open Go Go.RowKit

/-- a word of 32 bits -/
def W32 (x : Int) : Prop := 0 ≤ x ∧ x < 4294967296
/-- rotated to the right, as the walk spells it -/
def ror (x : Int) (n : Nat) : Int := bits .or .u32 (x * 2 ^ (32 - n) % 4294967296) (x / 2 ^ n)
theorem bits_u32_range (op : BinOp) (a b : Int) : W32 (bits op .u32 a b) := by
  unfold bits
  split <;> simp only [IntKind.wrap_u32'] <;> exact ⟨by omega, by omega⟩
theorem ror_range (x : Int) (n : Nat) : W32 (ror x n) := bits_u32_range _ _ _

theorem neg_and (n : Nat) (h1 : 1 ≤ n) (h2 : n ≤ 31) : bits .and .u64 (IntKind.u64.wrap (-(n : Int))) 31 = ((32 - n : Nat) : Int) := by
  have h := (by decide +kernel : ∀ m : Fin 32, 1 ≤ m.val → bits .and .u64 (IntKind.u64.wrap (-(m.val : Int))) 31 = ((32 - m.val : Nat) : Int)) ⟨n, by omega⟩ h1
  exact h

theorem rotl_any (x : Int) (n : Nat) (h1 : 1 ≤ n) (h2 : n ≤ 31) (hx : W32 x) (w : World) : Calls Tryd.prog 84 #[.int .u32 x, .int .i64 (-(n : Int))] w fun e w' => e = .returned (.int .u32 (ror x n)) ∧ w = w' := by
  obtain ⟨h3, h4⟩ := hx
  have hb := neg_and n h1 h2
  generalize hm : bits .and .u64 (IntKind.u64.wrap (-(n : Int))) 31 = m at *
  subst hb
  have e1 : 32 - (32 - n) = n := by omega
  have HM := Lib.hid e1; clear e1
  have hm1 : 1 ≤ 32 - n := by omega
  have hm2 : 32 - n ≤ 31 := by omega
  have hr : ror x n = bits .or .u32 (x * 2 ^ (32 - n) % 4294967296) (x / 2 ^ (32 - (32 - n))) := by rw [HM.out]; rfl
  have HR := Lib.hid hr; clear hr
  generalize 32 - n = k at *
  go_enter Tryd.func84, Tryd.ntmps84
  go_wp2
  go_ret
  exact ⟨ret_int HR.out.symm, rfl⟩

theorem right_any (x n : Int) (h1 : 1 ≤ n) (h2 : n ≤ 31) (hx : W32 x) (w : World) : Calls Tryd.prog 94 #[.int .u32 x, .int .i64 n] w fun e w' => e = .returned (.int .u32 (ror x n.toNat)) ∧ w = w' := by
  obtain ⟨n, rfl⟩ := Int.eq_ofNat_of_zero_le (show 0 ≤ n by omega)
  go_enter Tryd.func94, Tryd.ntmps94
  go_wp2_with (go_at_call 84; refine (rotl_any _ _ (by omega) (by omega) hx _).mono ?_; rintro e w' ⟨rfl, rfl⟩)
  go_ret
  exact ⟨rfl, rfl⟩

def Byte (x : Int) : Prop := 0 ≤ x ∧ x < 256
def Bytes (l : List Int) : Prop := ∀ x ∈ l, Byte x
theorem Bytes.getD {l : List Int} (h : Bytes l) (j : Nat) : Byte (l.getD j 0) := by
  by_cases hj : j < l.length
  · have : l.getD j 0 = l[j] := by simp [hj]
    rw [this]; exact h _ (List.getElem_mem hj)
  · have : l.getD j 0 = 0 := by simp [List.getD, List.getElem?_eq_none (by omega : l.length ≤ j)]
    rw [this]; exact ⟨by omega, by omega⟩
def Words (l : List Int) : Prop := ∀ x ∈ l, W32 x
theorem Words.getD {l : List Int} (h : Words l) (j : Nat) : W32 (l.getD j 0) := by
  by_cases hj : j < l.length
  · have : l.getD j 0 = l[j] := by simp [hj]
    rw [this]; exact h _ (List.getElem_mem hj)
  · have : l.getD j 0 = 0 := by simp [List.getD, List.getElem?_eq_none (by omega : l.length ≤ j)]
    rw [this]; exact ⟨by omega, by omega⟩
theorem mod_range (x : Int) : W32 (x % 4294967296) := ⟨by omega, by omega⟩

/-- four bytes, the greatest first -/
def word (l : List Int) (i : Nat) : Int := bits .or .u32 (bits .or .u32 (bits .or .u32 (l.getD (4 * i) 0 * 16777216) (l.getD (4 * i + 1) 0 * 65536)) (l.getD (4 * i + 2) 0 * 256)) (l.getD (4 * i + 3) 0)
def ssig0 (x : Int) : Int := bits .xor .u32 (bits .xor .u32 (ror x 7) (ror x 18)) (x / 8)
def ssig1 (x : Int) : Int := bits .xor .u32 (bits .xor .u32 (ror x 17) (ror x 19)) (x / 1024)
def snext (ws : List Int) (n : Nat) : Int := (ws.getD (n - 16) 0 + ws.getD (n - 7) 0 + ssig0 (ws.getD (n - 15) 0) + ssig1 (ws.getD (n - 2) 0)) % 4294967296
/-- the words of the steps -/
def sched (l : List Int) : Nat → List Int
  | 0 => []
  | n + 1 => sched l n ++ [if n < 16 then word l n else snext (sched l n) n]
theorem sched_length (l : List Int) (n : Nat) : (sched l n).length = n := by
  induction n with
  | zero => rfl
  | succ n ih => simp [sched, ih]
theorem sched_words (l : List Int) (n : Nat) : Words (sched l n) := by
  induction n with
  | zero => intro x hx; simp [sched] at hx
  | succ n ih =>
    intro x hx
    simp only [sched, List.mem_append, List.mem_singleton] at hx
    rcases hx with hx | rfl
    · exact ih x hx
    · split
      · exact bits_u32_range _ _ _
      · exact mod_range _
/-- the words so far, and noughts -/
def sbuf (l : List Int) (n : Nat) : List Int := sched l n ++ List.replicate (64 - n) 0
theorem sbuf_length (l : List Int) (n : Nat) (h : n ≤ 64) : (sbuf l n).length = 64 := by simp [sbuf, sched_length]; omega
theorem sbuf_getD (l : List Int) (n j : Nat) (h : j < n) : (sbuf l n).getD j 0 = (sched l n).getD j 0 := by
  simp [sbuf, List.getD, List.getElem?_append_left, sched_length, h]
theorem sbuf_set (l : List Int) (n : Nat) (h : n < 64) (x : Int) (hx : x = if n < 16 then word l n else snext (sched l n) n) : (sbuf l n).set n x = sbuf l (n + 1) := by
  subst hx
  unfold sbuf
  rw [List.set_append_right _ _ (by rw [sched_length]; omega)]
  simp only [sched_length, Nat.sub_self]
  rw [show 64 - n = (64 - (n + 1)) + 1 by omega, List.replicate_succ, List.set_cons_zero]
  rw [sched]
  simp
theorem sbuf_full (l : List Int) : sbuf l 64 = sched l 64 := by simp [sbuf]

/-! the rounds -/
def bsig1 (e : Int) : Int := bits .xor .u32 (bits .xor .u32 (ror e 6) (ror e 11)) (ror e 25)
def bsig0 (a : Int) : Int := bits .xor .u32 (bits .xor .u32 (ror a 2) (ror a 13)) (ror a 22)
def chf (e f g : Int) : Int := bits .xor .u32 (bits .and .u32 e f) (bits .and .u32 (bits .xor .u32 IntKind.u32.max e) g)
def majf (a b c : Int) : Int := bits .xor .u32 (bits .xor .u32 (bits .and .u32 a b) (bits .and .u32 a c)) (bits .and .u32 b c)
structure St where
  (a b c d e f g h : Int)
def St.list (s : St) : List Int := [s.a, s.b, s.c, s.d, s.e, s.f, s.g, s.h]
def St.ok (s : St) : Prop := W32 s.a ∧ W32 s.b ∧ W32 s.c ∧ W32 s.d ∧ W32 s.e ∧ W32 s.f ∧ W32 s.g ∧ W32 s.h
def tone (s : St) (k x : Int) : Int := (s.h + bsig1 s.e + chf s.e s.f s.g + k + x) % 4294967296
def ttwo (s : St) : Int := (bsig0 s.a + majf s.a s.b s.c) % 4294967296
def St.round (s : St) (k x : Int) : St := ⟨(tone s k x + ttwo s) % 4294967296, s.a, s.b, s.c, (s.d + tone s k x) % 4294967296, s.e, s.f, s.g⟩
def St.plus (s t : St) : St := ⟨(s.a + t.a) % 4294967296, (s.b + t.b) % 4294967296, (s.c + t.c) % 4294967296, (s.d + t.d) % 4294967296, (s.e + t.e) % 4294967296, (s.f + t.f) % 4294967296, (s.g + t.g) % 4294967296, (s.h + t.h) % 4294967296⟩
theorem St.round_ok {s : St} (h : s.ok) (k x : Int) : (s.round k x).ok := ⟨mod_range _, h.1, h.2.1, h.2.2.1, mod_range _, h.2.2.2.2.1, h.2.2.2.2.2.1, h.2.2.2.2.2.2.1⟩
theorem St.plus_ok (s t : St) : (s.plus t).ok := ⟨mod_range _, mod_range _, mod_range _, mod_range _, mod_range _, mod_range _, mod_range _, mod_range _⟩
def k256 : List Int := [0x428a2f98, 0x71374491, 0xb5c0fbcf, 0xe9b5dba5, 0x3956c25b, 0x59f111f1, 0x923f82a4, 0xab1c5ed5, 0xd807aa98, 0x12835b01, 0x243185be, 0x550c7dc3, 0x72be5d74, 0x80deb1fe, 0x9bdc06a7, 0xc19bf174, 0xe49b69c1, 0xefbe4786, 0x0fc19dc6, 0x240ca1cc, 0x2de92c6f, 0x4a7484aa, 0x5cb0a9dc, 0x76f988da, 0x983e5152, 0xa831c66d, 0xb00327c8, 0xbf597fc7, 0xc6e00bf3, 0xd5a79147, 0x06ca6351, 0x14292967, 0x27b70a85, 0x2e1b2138, 0x4d2c6dfc, 0x53380d13, 0x650a7354, 0x766a0abb, 0x81c2c92e, 0x92722c85, 0xa2bfe8a1, 0xa81a664b, 0xc24b8b70, 0xc76c51a3, 0xd192e819, 0xd6990624, 0xf40e3585, 0x106aa070, 0x19a4c116, 0x1e376c08, 0x2748774c, 0x34b0bcb5, 0x391c0cb3, 0x4ed8aa4a, 0x5b9cca4f, 0x682e6ff3, 0x748f82ee, 0x78a5636f, 0x84c87814, 0x8cc70208, 0x90befffa, 0xa4506ceb, 0xbef9a3f7, 0xc67178f2]
def rounds (s : St) (ws : List Int) : Nat → St
  | 0 => s
  | n + 1 => (rounds s ws n).round (k256.getD n 0) (ws.getD n 0)
theorem rounds_ok {s : St} (h : s.ok) (ws : List Int) (n : Nat) : (rounds s ws n).ok := by
  induction n with
  | zero => exact h
  | succ n ih => exact St.round_ok ih _ _
/-- one block of 64 bytes -/
def compress (s : St) (l : List Int) : St := s.plus (rounds s (sched l 64) 64)
def iv256 : St := ⟨0x6a09e667, 0xbb67ae85, 0x3c6ef372, 0xa54ff53a, 0x510e527f, 0x9b05688c, 0x1f83d9ab, 0x5be0cd19⟩
theorem iv256_ok : iv256.ok := by unfold St.ok iv256 W32; decide
theorem k256_words : Words k256 := by unfold Words W32; decide
theorem k256_length : k256.length = 64 := by decide
/-- n blocks, from a state on -/
def run256 (s : St) (l : List Int) : Nat → St
  | 0 => s
  | n + 1 => compress (run256 s l n) ((l.drop (64 * n)).take 64)
theorem run256_ok {s : St} (h : s.ok) (l : List Int) (n : Nat) : (run256 s l n).ok := by
  cases n with
  | zero => exact h
  | succ n => exact St.plus_ok _ _
theorem run256_add (s : St) (l : List Int) (q i : Nat) : run256 s l (q + i) = run256 (run256 s l q) (l.drop (64 * q)) i := by
  induction i with
  | zero => rfl
  | succ i ih =>
    rw [← Nat.add_assoc, run256, run256, ih, List.drop_drop, show 64 * (q + i) = 64 * q + 64 * i by omega]
theorem run256_append (s : St) (l r : List Int) (q : Nat) (h : 64 * q ≤ l.length) : run256 s (l ++ r) q = run256 s l q := by
  induction q with
  | zero => rfl
  | succ q ih =>
    rw [run256, run256, ih (by omega), List.drop_append_of_le_length (by omega), List.take_append_of_le_length (by simp; omega)]
/-- blocks taken behind those of before are those of all -/
theorem run256_more (s : St) (l r : List Int) (i : Nat) :
    run256 (run256 s l (l.length / 64)) (l.drop (64 * (l.length / 64)) ++ r) i = run256 s (l ++ r) (l.length / 64 + i) := by
  rw [run256_add, run256_append s l r (l.length / 64) (by omega), List.drop_append_of_le_length (by omega)]
/-- cells from 'off' on in block b hold these values, and may be written -/
def Row (w : World) (b off : Nat) (vs : List Value) : Prop := ∀ j v, vs[j]? = some v → w.cell? ⟨b, off + j, none⟩ = some v ∧ w.frozen? ⟨b, off + j, none⟩ = false

/-- only blocks of S that were there have changed -/
structure Chg (S : Nat → Prop) (w w' : World) : Prop where
  os : w'.os = w.os
  tape : w'.tape = w.tape
  output : w'.output = w.output
  size : w.heap.size ≤ w'.heap.size
  block : ∀ k, k < w.heap.size → ¬ S k → w'.heap[k]? = w.heap[k]?
theorem Chg.refl (S : Nat → Prop) (w : World) : Chg S w w := ⟨rfl, rfl, rfl, Nat.le_refl _, fun _ _ _ => rfl⟩
theorem Chg.trans {S : Nat → Prop} {a b c : World} (h : Chg S a b) (k : Chg S b c) : Chg S a c :=
  ⟨k.os.trans h.os, k.tape.trans h.tape, k.output.trans h.output, Nat.le_trans h.size k.size, fun i hi hs => (k.block i (Nat.lt_of_lt_of_le hi h.size) hs).trans (h.block i hi hs)⟩
theorem Chg.mono {S T : Nat → Prop} {w w' : World} (h : Chg S w w') (hs : ∀ k, k < w.heap.size → S k → T k) : Chg T w w' :=
  ⟨h.os, h.tape, h.output, h.size, fun k hk ht => h.block k hk (fun hsk => ht (hs k hk hsk))⟩
theorem Keeps.chg {w w' : World} (h : Keeps w w') (S : Nat → Prop) : Chg S w w' := ⟨h.os, h.tape, h.output, h.size, fun k hk _ => h.block k hk⟩
theorem Chg.below {S : Nat → Prop} {w w' : World} (h : Chg S w w') {B : Nat} (hB : B ≤ w.heap.size) (hs : ∀ k, k < B → ¬ S k) : Below B w w' :=
  ⟨h.os, h.tape, h.output, h.size, fun k hk => h.block k (Nat.lt_of_lt_of_le hk hB) (hs k hk)⟩
theorem Chg.keeps {S : Nat → Prop} {w w' : World} (h : Chg S w w') (hs : ∀ k, k < w.heap.size → ¬ S k) : Keeps w w' := h.below (Nat.le_refl _) hs
theorem Chg.drewN {S : Nat → Prop} {a w : World} (h : Chg S a w) (n : Nat) : Chg S a (w.drewN n) := h.trans ((Qt.drewN w n).keeps.chg S)
theorem Chg.drew {S : Nat → Prop} {a w : World} (h : Chg S a w) : Chg S a w.drew := h.trans (Keeps.chg (Below.drew (Below.refl _ w)) S)
theorem Chg.alloc {S : Nat → Prop} {a w : World} (h : Chg S a w) (o : Obj) : Chg S a (w.alloc o) := h.trans (Keeps.chg (Below.alloc (Below.refl _ w) (Nat.le_refl _) o) S)
theorem Chg.setCell {S : Nat → Prop} {a w : World} (h : Chg S a w) {p : Addr} (hp : a.heap.size ≤ p.block ∨ S p.block) (u : Value) : Chg S a (w.setCell p u) :=
  ⟨h.os, h.tape, h.output, by simpa using h.size, fun k hk hs => by
    have hne : k ≠ p.block := by
      intro e
      subst e
      rcases hp with hp | hp
      · omega
      · exact hs hp
    rw [heap_setCell_other w p k u hne]
    exact h.block k hk hs⟩
theorem Row.lt {w : World} {b off : Nat} {vs : List Value} (h : Row w b off vs) (hne : vs ≠ []) : b < w.heap.size := by
  cases vs with
  | nil => exact absurd rfl hne
  | cons v vs => exact World.block_lt_of_cell? w _ (h 0 v rfl).1
theorem Row.of_block {w w' : World} {b off : Nat} {vs : List Value} (h : Row w b off vs) (hb : w'.heap[b]? = w.heap[b]?) : Row w' b off vs := fun j v hv =>
  ⟨(World.cell?_of_block (w := w) (a := ⟨b, off + j, none⟩) hb).trans (h j v hv).1, (World.frozen?_of_block (w := w) (a := ⟨b, off + j, none⟩) hb).trans (h j v hv).2⟩
theorem Row.chg {S : Nat → Prop} {w w' : World} {b off : Nat} {vs : List Value} (h : Row w b off vs) (hc : Chg S w w') (hs : ¬ S b) : Row w' b off vs := by
  by_cases hne : vs = []
  · subst hne; intro j v hv; simp at hv
  · exact h.of_block (hc.block b (h.lt hne) hs)
theorem Row.keeps {w w' : World} {b off : Nat} {vs : List Value} (h : Row w b off vs) (hc : Keeps w w') : Row w' b off vs := h.chg (hc.chg (fun _ => False)) (fun h => h)
theorem Row.alloc {w : World} {b off : Nat} {vs : List Value} (h : Row w b off vs) (o : Obj) : Row (w.alloc o) b off vs := h.keeps ((Keeps.refl w).alloc (Nat.le_refl _) o)
theorem Row.drewN {w : World} {b off : Nat} {vs : List Value} (h : Row w b off vs) (n : Nat) : Row (w.drewN n) b off vs := h
theorem Row.drew {w : World} {b off : Nat} {vs : List Value} (h : Row w b off vs) : Row w.drew b off vs := h
theorem Row.other {w : World} {b off : Nat} {vs : List Value} (h : Row w b off vs) {p : Addr} (hp : b ≠ p.block) (u : Value) : Row (w.setCell p u) b off vs := h.of_block (heap_setCell_other w p b u hp)
/-- a store beside the row, in the same block -/
theorem Row.beside {w : World} {b off : Nat} {vs : List Value} (h : Row w b off vs) (o : Nat) (ho : o < off ∨ off + vs.length ≤ o) (u : Value) : Row (w.setCell ⟨b, o, none⟩ u) b off vs := fun j v hv => by
  have hj : j < vs.length := by
    by_cases hj : j < vs.length
    · exact hj
    · rw [List.getElem?_eq_none (by omega)] at hv; cases hv
  refine ⟨?_, by rw [World.frozen?_setCell]; exact (h j v hv).2⟩
  rw [World.cell?_setCell_other]
  · exact (h j v hv).1
  · intro e
    have := congrArg Addr.off e
    simp at this; omega
theorem Row.set {w : World} {b off : Nat} {vs : List Value} (h : Row w b off vs) (i : Nat) (hi : i < vs.length) (u : Value) : Row (w.setCell ⟨b, off + i, none⟩ u) b off (vs.set i u) := fun j v hv => by
  refine ⟨?_, ?_⟩
  · by_cases e : i = j
    · subst e
      rw [List.getElem?_set_self hi] at hv
      cases hv
      exact World.cell?_setCell_same _ _ _ (h i vs[i] (by simp)).1
    · rw [List.getElem?_set_ne e] at hv
      rw [World.cell?_setCell_other]
      · exact (h j v hv).1
      · intro e2
        have := congrArg Addr.off e2
        simp at this; exact e this
  · rw [World.frozen?_setCell]
    by_cases e : i = j
    · subst e; exact (h i vs[i] (by simp)).2
    · rw [List.getElem?_set_ne e] at hv; exact (h j v hv).2
theorem Row.new {w : World} (vs : List Value) (cs : Array Value) (T : TypeId) (e : cs = vs.toArray) : Row (w.alloc (.cells cs T)) w.heap.size 0 vs := fun j v hv => by
  subst e
  rw [Nat.zero_add, World.cell?_alloc_at _ _ _ _ rfl, World.frozen?_alloc_at _ _ _ _ rfl]
  exact ⟨by simpa using hv, rfl⟩
theorem Row.take {w : World} {b off : Nat} {vs : List Value} (h : Row w b off vs) (n : Nat) : Row w b off (vs.take n) := fun j v hv => h j v (by
  rw [List.getElem?_take] at hv; split at hv
  · exact hv
  · cases hv)
theorem Row.drop {w : World} {b off : Nat} {vs : List Value} (h : Row w b off vs) (n : Nat) : Row w b (off + n) (vs.drop n) := fun j v hv => by
  rw [List.getElem?_drop] at hv
  rw [Nat.add_assoc]; exact h _ _ hv
theorem Row.append {w : World} {b off : Nat} {xs ys : List Value} (h : Row w b off xs) (k : Row w b (off + xs.length) ys) : Row w b off (xs ++ ys) := fun j v hv => by
  by_cases hj : j < xs.length
  · rw [List.getElem?_append_left hj] at hv; exact h j v hv
  · rw [List.getElem?_append_right (by omega)] at hv
    have := k _ v hv
    rwa [show off + xs.length + (j - xs.length) = off + j by omega] at this

/-- the cell of a row of integers -/
theorem Row.int {k : IntKind} {w : World} {b off : Nat} {zs : List Int} (h : Row w b off (zs.map (Value.int k))) (j : Nat) (hj : j < zs.length) : w.cell? ⟨b, off + j, none⟩ = some (.int k (zs.getD j 0)) :=
  (h j _ (by simp [List.getD, hj])).1
theorem Row.int0 {k : IntKind} {w : World} {b : Nat} {zs : List Int} (h : Row w b 0 (zs.map (Value.int k))) (j : Nat) (hj : j < zs.length) : w.cell? ⟨b, j, none⟩ = some (.int k (zs.getD j 0)) := by
  have := h.int j hj; rwa [Nat.zero_add] at this
theorem Row.free {w : World} {b off : Nat} {vs : List Value} (h : Row w b off vs) (j : Nat) (hj : j < vs.length) : w.frozen? ⟨b, off + j, none⟩ = false := (h j vs[j] (by simp)).2
theorem Row.free0 {w : World} {b : Nat} {vs : List Value} (h : Row w b 0 vs) (j : Nat) (hj : j < vs.length) : w.frozen? ⟨b, j, none⟩ = false := by
  have := h.free j hj; rwa [Nat.zero_add] at this
theorem Row.setInt0 {k : IntKind} {w : World} {b : Nat} {zs : List Int} (h : Row w b 0 (zs.map (Value.int k))) (i : Nat) (hi : i < zs.length) (u : Int) : Row (w.setCell ⟨b, i, none⟩ (.int k u)) b 0 ((zs.set i u).map (Value.int k)) := by
  have := h.set i (by simpa using hi) (.int k u)
  rw [Nat.zero_add] at this
  rwa [List.map_set]
theorem Row.setInt {k : IntKind} {w : World} {b off : Nat} {zs : List Int} (h : Row w b off (zs.map (Value.int k))) (i : Nat) (hi : i < zs.length) (u : Int) : Row (w.setCell ⟨b, off + i, none⟩ (.int k u)) b off ((zs.set i u).map (Value.int k)) := by
  have := h.set i (by simpa using hi) (.int k u)
  rwa [List.map_set]

/-- beside n cells from o on, block b reads as it did -/
def Beside (w w' : World) (b o n : Nat) : Prop := ∀ j, (j < o ∨ o + n ≤ j) → w'.cell? ⟨b, j, none⟩ = w.cell? ⟨b, j, none⟩ ∧ w'.frozen? ⟨b, j, none⟩ = w.frozen? ⟨b, j, none⟩
theorem Beside.of_block {w w' : World} {b : Nat} (h : w'.heap[b]? = w.heap[b]?) (o n : Nat) : Beside w w' b o n := fun j _ =>
  ⟨World.cell?_of_block (w := w) (a := ⟨b, j, none⟩) h, World.frozen?_of_block (w := w) (a := ⟨b, j, none⟩) h⟩
theorem Beside.keeps {w w' : World} {b : Nat} (h : Keeps w w') (hb : b < w.heap.size) (o n : Nat) : Beside w w' b o n := Beside.of_block (h.block b hb) o n
theorem Beside.trans {a b c : World} {g o n : Nat} (h : Beside a b g o n) (k : Beside b c g o n) : Beside a c g o n := fun j hj =>
  ⟨(k j hj).1.trans (h j hj).1, (k j hj).2.trans (h j hj).2⟩
theorem Beside.setCell {w : World} {b o n i : Nat} (hi : i < n) (u : Value) : Beside w (w.setCell ⟨b, o + i, none⟩ u) b o n := fun j hj => by
  refine ⟨World.cell?_setCell_other _ _ _ _ ?_, World.frozen?_setCell _ _ _ _⟩
  intro e
  have := congrArg Addr.off e
  simp at this; omega
/-- a part of a row written anew -/
theorem Row.patch {w w' : World} {b base : Nat} {vs cs : List Value} (h : Row w b base vs) (i : Nat) (hc : Row w' b (base + i) cs) (hb : Beside w w' b (base + i) cs.length) (hl : i + cs.length ≤ vs.length) :
    Row w' b base (vs.take i ++ cs ++ vs.drop (i + cs.length)) := fun j v hv => by
  by_cases h1 : j < i
  · rw [List.append_assoc, List.getElem?_append_left (by simp; omega), List.getElem?_take, if_pos h1] at hv
    have e := hb (base + j) (.inl (by omega))
    exact ⟨e.1.trans (h j v hv).1, e.2.trans (h j v hv).2⟩
  · by_cases h2 : j < i + cs.length
    · rw [List.append_assoc, List.getElem?_append_right (by simp; omega), List.getElem?_append_left (by simp; omega)] at hv
      have := hc (j - i) v (by simpa [Nat.min_eq_left (show i ≤ vs.length by omega)] using hv)
      rwa [show base + i + (j - i) = base + j by omega] at this
    · rw [List.getElem?_append_right (by simp; omega), List.getElem?_drop] at hv
      have hv' : vs[j]? = some v := by
        rw [← hv]; congr 1; simp; omega
      have e := hb (base + j) (.inr (by omega))
      exact ⟨e.1.trans (h j v hv').1, e.2.trans (h j v hv').2⟩

section
variable {P : Program}
/-- a whole array, or struct, read out of a row -/
theorem run_loadVar_at (w : World) (g off : Nat) (ty : TypeId) (cs : List Value) (d : TypeDesc) (hg : Row w g off cs)
    (hu : P.underlying ty = some d) (hd : (match d with | .struct _ | .array _ _ => true | _ => false) = true) (hi : (P.info? ty).map (·.size) = some cs.length) :
    (loadVar ty ⟨g, off, none⟩).run P w = .ok (.agg cs.toArray) w := by
  have hl : (loadCells ⟨g, off, none⟩ cs.length).run P w = .ok cs.toArray w :=
    run_loadCells_list (P := P) w ⟨g, off, none⟩ cs (fun j v hv => by
      have hadd : (⟨g, off, none⟩ : Addr).add j = ⟨g, off + j, none⟩ := by unfold Addr.add; split <;> simp_all
      rw [hadd]
      exact (hg j v hv).1)
  cases hq : P.info? ty with
  | none => simp [hq] at hi
  | some i =>
    have hs : i.size = cs.length := by simpa [hq] using hi
    have hagg : (isAgg ty).run P w = .ok true w := by
      unfold isAgg
      rw [Sem.run_bind, run_underlying hu w]
      cases d <;> simp_all
    simp [loadVar, Sem.run_bind, hagg, sizeOf, typeInfo, hq, hs, hl]
theorem wpList_load_at {ops : Array Oper} {rest : List Oper} {o : Oper} {a : Act} {w : World} {Q : Exit → Act → World → Prop} (hgd : o.guard = none) (ty : TypeId) (x : Operand) (ho : o.op = .load ty x)
    (g off : Nat) (hx : a.eval x = .pointer (some ⟨g, off, none⟩)) (cs : List Value) (d : TypeDesc) (hg : Row w g off cs)
    (hu : P.underlying ty = some d) (hd : (match d with | .struct _ | .array _ _ => true | _ => false) = true) (hi : (P.info? ty).map (·.size) = some cs.length)
    (h : wpList P ops Q rest (a.put o.dst (.agg cs.toArray)) w) : wpList P ops Q (o :: rest) a w :=
  wpList_plain hgd fun _ hK => by
    unfold Oper.wp execOp
    simp only [ho, hx, Instr.loadAt, Instr.sureAddr, Sem.run_bind, Sem.run_pure, Result.andThen_ok, run_loadVar_at w g off ty cs d hg hu hd hi]
    exact hK _ _ h
theorem results_cell_at {fn : Func} {p : Tmp} {ty : TypeId} (h : fn.results = #[.cell p ty]) (tmps : Array Value) (w : World) (g off : Nat) (cs : List Value) (d : TypeDesc)
    (hp : tmps.getD p undef = .pointer (some ⟨g, off, none⟩)) (hg : Row w g off cs)
    (hu : P.underlying ty = some d) (hd : (match d with | .struct _ | .array _ _ => true | _ => false) = true) (hi : (P.info? ty).map (·.size) = some cs.length) :
    (results fn tmps).run P w = .ok (.agg cs.toArray) w := by
  have hp' : tmps[p]?.getD undef = .pointer (some ⟨g, off, none⟩) := by simpa using hp
  simp [results, h, hp', asAddr, run_loadVar_at w g off ty cs d hg hu hd hi]
/-- an element of an array of integers that is a value -/
theorem run_index_ints (w : World) (T e : TypeId) (n : Nat) (k : IntKind) (zs : List Int) (i : Nat) (hu : P.underlying T = some (.array n e)) (he : P.underlying e = some (.int k)) (hs : (P.info? e).map (·.size) = some 1) (hl : zs.length = n) (hi : i < n) :
    (Instr.index T (.agg (zs.map (Value.int k)).toArray) (.int .i64 (i : Int))).run P w = .ok (.int k (zs.getD i 0)) w := by
  have hi' : i < zs.length := by omega
  have h1 : (0 : Int) ≤ (i : Int) ∧ (i : Int) < (n : Int) := by omega
  cases hq : P.info? e with
  | none => simp [hq] at hs
  | some x =>
    have hx : x.size = 1 := by simpa [hq] using hs
    simp [Instr.index, run_underlying hu, run_underlying he, asIntOf, h1, go_sem, part, isAgg, sizeOf, typeInfo, hq, hx, List.getD, hi']
    intro hni; omega
end
end Go.Proofs.YtlofddoojkeakaaDoor
namespace Go.Proofs.YtlofddoojkeakaaDoor
set_option linter.unusedVariables false
set_option linter.unusedSimpArgs false
open Go
section
variable {P : Program} {ops : Array Oper} {md : Region.Mode} {C : World → Prop}
def wpAnyQL (P : Program) (md : Region.Mode) (ops : Array Oper) (C : World → Prop) (n : Nat) (L : Array Bool → Act → Prop) : Nat → Array Bool → Act → Prop
  | 0, listed, a => L listed a
  | f + 1, listed, a =>
    Region.ready md ops listed ≠ [] ∧ ∀ i ∈ Region.ready md ops listed, i < n ∧ qOp P ops C i (wpAnyQL P md ops C n L f (listed.setIfInBounds i true)) a
theorem wpAny_of_qhead {n g : Nat} {L : Array Bool → Act → Prop} {Q' : Exit → Act → World → Prop} (hL : ∀ listed a w, C w → L listed a → wpAny P md ops Q' g listed a w) :
    ∀ (f : Nat) (listed : Array Bool) (a : Act) (w : World), C w → wpAnyQL P md ops C n L f listed a → wpAny P md ops Q' (f + g) listed a w
  | 0, listed, a, w, hw, h => by rw [Nat.zero_add]; exact hL _ _ _ hw h
  | f + 1, listed, a, w, hw, h => by
    rw [show f + 1 + g = (f + g) + 1 by omega]
    exact ⟨fun h0 => absurd h0 h.1, fun i hi => wpOp_of_qOp hw (fun a' w' hw' h' => wpAny_of_qhead hL f _ a' w' hw' h') (h.2 i hi).2⟩
theorem wpAnyQL_first {n i : Nat} {oi : Oper} {v : Value} {L : Array Bool → Act → Prop} (hi : ops[i]? = some oi) (hsel : ∀ (j : Nat) (o : Oper) cs b, ops[j]? = some o → o.op ≠ .select cs b)
    (hs : Region.sinkB md ops n = true) (hc : Region.chainB md ops n = true) (hn : n < ops.size) (hin : i < n)
    (hdone : ∀ listed a, L listed a → ∀ j ∈ Region.ready md ops listed, n ≤ j) :
    ∀ (f : Nat) (listed : Array Bool) (a : Act), HeadInv md ops n listed →
      (∀ j oj, ops[j]? = some oj → j ≠ i → listed.getD j true = false → (∀ e ∈ oj.after, Region.binds md e = true → e.on ≠ i) → oi.apart ops oj = true) →
      i ∈ Region.ready md ops listed → YieldsIn P ops C oi v a →
      wpAnyQL P md ops C n L f (listed.setIfInBounds i true) (a.put oi.dst v) → wpAnyQL P md ops C n L (f + 1) listed a := by
  intro f
  induction f with
  | zero =>
    intro listed a inv _ hr hy H
    have hun := (mem_ready.1 hr).1
    refine ⟨fun h => (by rw [h] at hr; cases hr), fun j hj => ?_⟩
    have hjn : j < n := by
      rcases Nat.lt_or_ge j n with h | h
      · exact h
      · exact absurd hj (tail_waits hs hc hn inv _ i rfl hin hun j h)
    refine ⟨hjn, ?_⟩
    by_cases hji : j = i
    · subst hji; exact hy.qOp hi H
    · have := hdone _ _ H j (ready_mono hj hji)
      omega
  | succ f ih =>
    intro listed a inv hfree hr hy H
    have hun := (mem_ready.1 hr).1
    refine ⟨fun h => (by rw [h] at hr; cases hr), fun j hj => ?_⟩
    have hjn : j < n := by
      rcases Nat.lt_or_ge j n with h | h
      · exact h
      · exact absurd hj (tail_waits hs hc hn inv _ i rfl hin hun j h)
    refine ⟨hjn, ?_⟩
    by_cases hji : j = i
    · subst hji; exact hy.qOp hi H
    · have h1 := (H.2 j (ready_mono hj hji)).2
      obtain ⟨hjun, oj, hoj, hall⟩ := mem_ready.1 hj
      have hnot : ∀ e ∈ oj.after, Region.binds md e = true → e.on ≠ i := fun e he hb heq => by
        have h1 := hall e he hb
        rw [heq, getD_both hun] at h1
        cases h1
      have h2 := qOp_put hoj (hfree j oj hoj hji hjun hnot) (fun cs b => hsel i oi cs b hi) (fun cs b => hsel j oj cs b hoj) hy h1
      have hfree' : ∀ k ok, ops[k]? = some ok → k ≠ i → (listed.setIfInBounds j true).getD k true = false →
          (∀ e ∈ ok.after, Region.binds md e = true → e.on ≠ i) → oi.apart ops ok = true := fun k ok hk hki hun hno => by
        refine hfree k ok hk hki ?_ hno
        by_cases hjk : j = k
        · subst hjk; exact hjun
        · rw [getD_set_ne true hjk] at hun; exact hun
      refine qOp_mono (fun a' h3 => ih (listed.setIfInBounds j true) a' (inv.set hj hjn) hfree' (ready_mono hr (Ne.symm hji)) h3.1 ?_) h2
      rw [Array.setIfInBounds_comm _ _ hji]
      exact h3.2
theorem wpAnyQL_lex {n g : Nat} {Lq : Act → Prop} (hsel : Region.noSelect ops = true) (hs : Region.sinkB md ops n = true) (hc : Region.chainB md ops n = true) (hn : n < ops.size) :
    ∀ (l : List Oper) (k : Nat) (listed : Array Bool) (a : Act), (∀ j, j < l.length → l[j]? = ops[k + j]?) → k + l.length = n → HeadInv md ops n listed →
    Region.lexHead md ops g l.length k listed = true → wpQuiet P ops C Lq l a →
    wpAnyQL P md ops C n (fun listed' a' => Region.seqB md ops g n listed' = true ∧ Lq a') l.length listed a
  | [], k, listed, a, _, hk, _, hB, h => by
    have : k = n := by simpa using hk
    subst this
    exact ⟨by simpa [Region.lexHead] using hB, h⟩
  | o :: l, k, listed, a, hl, hk, inv, hB, h => by
    have h0 : ops[k]? = some o := by simpa using (hl 0 (by simp)).symm
    simp only [List.length_cons, Region.lexHead, Bool.and_eq_true] at hB
    obtain ⟨⟨hr, hf⟩, hB'⟩ := hB
    have hkn : k < n := by simp only [List.length_cons] at hk; omega
    have hr' : k ∈ Region.ready md ops listed := by simpa using hr
    have hst : qOp P ops C k (wpQuiet P ops C Lq l) a := by unfold qOp; simp only [h0]; exact h
    obtain ⟨v, hy, hK⟩ := yieldsIn_of_qOp h0 hst
    exact wpAnyQL_first h0 (Region.noSelect_spec hsel) hs hc hn hkn (fun listed' a' hL => seqB_ready hL.1) l.length listed a inv (Region.free_spec h0 hf) hr' hy
      (wpAnyQL_lex hsel hs hc hn l (k + 1) _ _ (fun j hj => by have := hl (j + 1) (by simp; omega); simpa [Nat.add_assoc, Nat.add_comm 1 j] using this) (by simp only [List.length_cons] at hk; omega) (inv.set hr' hkn) hB' hK)
theorem wp_region_quiet_tail {id : Nat} {Q : Exit → Act → World → Prop} {a : Act} {w : World} {l : List Oper} (n : Nat) (hm : P.follows .mixedOrders = true) (hB : Region.lexTailB .any l.toArray n = true)
    (h : wpQuiet P l.toArray (fun w' => ∃ m, w' = w.drewN m) (fun a' => ∀ w', (∃ m, w' = w.drewN m) → wpList P l.toArray Q (l.drop n) a' w') (l.take n) a) : (Code.region id l.toArray true).wp P Q a w := by
  simp only [Region.lexTailB, Bool.and_eq_true, decide_eq_true_eq] at hB
  obtain ⟨⟨⟨⟨hsel, hn⟩, hs⟩, hc⟩, hlex⟩ := hB
  have hn' : n < l.length := by simpa using hn
  have htl : (l.take n).length = n := by simp; omega
  have hdl : (l.drop n).length = l.toArray.size - n := by simp
  have inv0 : HeadInv .any l.toArray n (Array.replicate l.toArray.size false) :=
    ⟨by simp, fun j oj _ hl => (by rw [getD_replicate_false] at hl; cases hl), fun t _ ht => getD_in (by simpa using ht) (getD_replicate_false _ _)⟩
  have H := wpAnyQL_lex (md := .any) (g := l.toArray.size - n) hsel hs hc hn (l.take n) 0 _ a (fun j hj => by
    have hj' : j < n := by rw [htl] at hj; exact hj
    simp [hj']) (by simpa using htl) inv0 (by rw [htl]; exact hlex) h
  refine wp_region_any hm ?_
  have := wpAny_of_qhead (Q' := Q) (g := l.toArray.size - n) (fun listed a' w' hw' hL => by
    have := wpAny_of_seq (md := .any) (Q' := Q) (l.drop n) n listed a' w' (fun j => by simp [List.getElem?_drop]) (by rw [hdl]; exact hL.1) (hL.2 w' hw')
    rwa [hdl] at this) _ _ _ { w with drawn := w.drawn + 1 } ⟨1, rfl⟩ H
  rw [htl, show n + (l.toArray.size - n) = l.toArray.size by omega] at this
  exact this
end
end Go.Proofs.YtlofddoojkeakaaDoor
