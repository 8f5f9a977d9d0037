/- Small words used by all my walks: worlds up to draws (Qt), endings, hiding. No condition. | Rotations of 32 bits: what bits.RotateLeft32, hash.right and the reference's rot hand back. The count is between 1 and 31. | SHA-256 on lists of numbers, as the walks spell it. Plain: no program. -/
import Derived.WalkKit
import Derived.Deep.QuietTactic
import Derived.BigQuiet
import Derived.Lib.Hide
import Derived.WalkSpells
import Derived.WalkLawsBesides
import Derived.WalkSmall
import Derived.Test.YtajipagpdphejaaProg
namespace Go.Proofs.Ytajipagpdphejaa
set_option linter.unusedVariables false
set_option linter.unusedSimpArgs false
open Go Go.RowKit

theorem ret_bool {a b : Bool} (h : a = b) : Ending.returned (.bool a) = .returned (.bool b) := by rw [h]
theorem ret_int {k : IntKind} {a b : Int} (h : a = b) : Ending.returned (.int k a) = .returned (.int k b) := by rw [h]

/-- the world after some draws -/
def Qt (w w' : World) : Prop := ∃ n, w' = w.drewN n
theorem Qt.refl (w : World) : Qt w w := ⟨0, rfl⟩
theorem Qt.drewN (w : World) (n : Nat) : Qt w (w.drewN n) := ⟨n, rfl⟩
theorem Qt.trans {a b c : World} (h : Qt a b) (k : Qt b c) : Qt a c := by
  obtain ⟨n, rfl⟩ := h; obtain ⟨m, rfl⟩ := k; exact ⟨n + m, World.drewN_drewN _ _ _⟩
theorem Qt.below {a b : World} (h : Qt a b) (B : Nat) : Below B a b := by
  obtain ⟨n, rfl⟩ := h; exact ⟨rfl, rfl, rfl, Nat.le_refl _, fun _ _ => rfl⟩
theorem Qt.size {a b : World} (h : Qt a b) : b.heap.size = a.heap.size := by
  obtain ⟨n, rfl⟩ := h; rfl

/-- everything that was there stays -/
abbrev Keeps (w w' : World) : Prop := Below w.heap.size w w'
theorem Keeps.refl (w : World) : Keeps w w := Below.refl _ _
theorem Keeps.trans {a b c : World} (h : Keeps a b) (k : Keeps b c) : Keeps a c := Below.trans h (Below.mono k h.size)
theorem Qt.keeps {a b : World} (h : Qt a b) : Keeps a b := h.below _

/-- what an owned row of one-cell elements is, once it isn't nil -/
theorem owned_out {w : World} {base : Nat} {e : TypeId} {v : Value} {n : Nat} {xs : List Value} (h : w.ownsRow base e 1 v n xs) (hv : v ≠ .slice none 0 0) :
    ∃ g cap, v = .slice (some ⟨g, 0, none⟩) n cap ∧ base ≤ g ∧ g < w.heap.size ∧ n ≤ cap ∧ cap ≤ maxLen ∧ xs.length = n ∧ (∀ i u, xs[i]? = some u → w.cell? ⟨g, i, none⟩ = some u ∧ w.frozen? ⟨g, i, none⟩ = false) := by
  rcases h.2 with ⟨rfl, _⟩ | ⟨g, cap, cur, rfl, hb, hg, hnc, hcm, hcs, htake⟩
  · exact absurd rfl hv
  · refine ⟨g, cap, rfl, hb, (Array.getElem?_eq_some_iff.1 hg).1, hnc, hcm, by simpa using h.1, fun i u hu => ?_⟩
    have hc := h.cells (g := g) rfl i u hu
    have hadd : (⟨g, 0, none⟩ : Addr).add i = ⟨g, i, none⟩ := by unfold Addr.add; split <;> simp_all
    rw [hadd] at hc
    refine ⟨hc, ?_⟩
    simp [World.frozen?, hg]

/-- cells from 'off' on hold these integers -/
def IntsAt (k : IntKind) (w : World) (b off : Nat) (zs : List Int) : Prop := ∀ i, i < zs.length → w.cell? ⟨b, off + i, none⟩ = some (.int k (zs.getD i 0))
/-- a slice (its address) reads as these integers: nothing is said where there is none -/
def SlInts (k : IntKind) (w : World) (a : Option Addr) (zs : List Int) : Prop := zs ≠ [] → ∃ b off, a = some ⟨b, off, none⟩ ∧ b < w.heap.size ∧ IntsAt k w b off zs
theorem SlInts.keeps {k : IntKind} {w w' : World} {a : Option Addr} {zs : List Int} (h : SlInts k w a zs) (hb : Keeps w w') : SlInts k w' a zs := by
  intro hz
  obtain ⟨b, off, rfl, hlt, hc⟩ := h hz
  exact ⟨b, off, rfl, Nat.lt_of_lt_of_le hlt hb.size, fun i hi => (hb.cell (p := ⟨b, off + i, none⟩) hlt).trans (hc i hi)⟩
theorem SlInts.take {k : IntKind} {w : World} {a : Option Addr} {zs : List Int} (h : SlInts k w a zs) (n : Nat) : SlInts k w a (zs.take n) := by
  intro hz
  obtain ⟨b, off, rfl, hlt, hc⟩ := h (by intro e; subst e; simp at hz)
  refine ⟨b, off, rfl, hlt, fun i hi => ?_⟩
  have hi' : i < zs.length := by simp at hi; omega
  have hin : i < n := by simp at hi; omega
  rw [hc i hi']
  simp [List.getD, hin]
theorem SlInts.of_owned {k : IntKind} {w : World} {base : Nat} {e : TypeId} {v : Value} {n : Nat} {zs : List Int} (h : w.ownsRow base e 1 v n (zs.map (Value.int k))) (hv : v ≠ .slice none 0 0) :
    ∃ a cap, v = .slice a n cap ∧ SlInts k w a zs ∧ zs.length = n := by
  obtain ⟨g, cap, rfl, _, hlt, _, _, hl, hc⟩ := owned_out h hv
  refine ⟨_, _, rfl, fun hz => ⟨g, 0, rfl, hlt, fun i hi => ?_⟩, by simpa using hl⟩
  rw [Nat.zero_add]
  refine (hc i _ ?_).1
  simp [List.getD, hi]
theorem int_oneCell {k : IntKind} (zs : List Int) : ∀ u ∈ zs.map (Value.int k), u.oneCell' = true := by
  intro u hu
  obtain ⟨z, _, rfl⟩ := List.mem_map.1 hu
  rfl
theorem SlInts.news {k : IntKind} {w : World} {x : Addr} {zs : List Int} (h : SlInts k w (some x) zs) : ∀ (j : Nat) (u : Value), (zs.map (Value.int k))[j]? = some u → w.cell? (x.add j) = some u := by
  intro j u hu
  have hj : j < zs.length := by
    by_cases hj : j < zs.length
    · exact hj
    · rw [List.getElem?_eq_none (by simpa using hj)] at hu; cases hu
  obtain ⟨b, off, hx, _, hc⟩ := h (by intro e; subst e; simp at hj)
  obtain rfl : x = ⟨b, off, none⟩ := Option.some.inj hx
  have hadd : (⟨b, off, none⟩ : Addr).add j = ⟨b, off + j, none⟩ := by unfold Addr.add; split <;> simp_all
  rw [hadd, hc j hj]
  simp [hj] at hu
  rw [← hu]; simp [List.getD, hj]

/-- from a row of integers that came in -/
theorem SlInts.of_row {k : IntKind} {w : World} {x : Addr} {len : Nat} {zs : List Int} (hl : len ≤ zs.length) (hcell : ∀ i, i < zs.length → w.cell? (x.add i) = some (.int k (zs.getD i 0))) :
    SlInts k w (some x) (zs.take len) ∧ (zs.take len).length = len := by
  refine ⟨SlInts.take (fun hz => ?_) len, by simp; omega⟩
  have h0 : 0 < zs.length := by cases zs with | nil => exact absurd rfl hz | cons _ _ => simp
  obtain ⟨b, off, spot⟩ := x
  have hc := hcell 0 h0
  have hspot : spot = none := by simpa [Addr.add] using World.cell?_spot hc
  subst hspot
  refine ⟨b, off, rfl, by simpa [Addr.add] using World.block_lt_of_cell? w _ hc, fun i hi => ?_⟩
  have := hcell i hi
  have hadd : (⟨b, off, none⟩ : Addr).add i = ⟨b, off + i, none⟩ := by unfold Addr.add; split <;> simp_all
  rwa [hadd] at this

/-! a callee's contract inside a quiet region: the world stays (s), or it draws (q); the first quiet region (1), or one behind another (2) -/
section
variable {P : Program} {f : FuncId} {args : Array Value} {w : World} {a n : Nat} {v : Value}
theorem q1 (h : Calls P f args (w.drewN n) fun e w' => e = .returned v ∧ Qt (w.drewN n) w') : Calls P f args (w.drewN n) fun e w'' => e = .returned v ∧ ∃ m, w'' = w.drewN m :=
  h.mono fun _ _ ⟨he, m, hm⟩ => ⟨he, n + m, by rw [hm, World.drewN_drewN]⟩
theorem q2 (h : Calls P f args (w.drewN (a + n)) fun e w' => e = .returned v ∧ Qt (w.drewN (a + n)) w') : Calls P f args (w.drewN (a + n)) fun e w'' => e = .returned v ∧ ∃ m, w'' = w.drewN (a + m) :=
  h.mono fun _ _ ⟨he, m, hm⟩ => ⟨he, n + m, by rw [hm, World.drewN_drewN, Nat.add_assoc]⟩
theorem s1 (h : Calls P f args (w.drewN n) fun e w' => e = .returned v ∧ w.drewN n = w') : Calls P f args (w.drewN n) fun e w'' => e = .returned v ∧ ∃ m, w'' = w.drewN m :=
  h.mono fun _ _ ⟨he, hm⟩ => ⟨he, n, hm.symm⟩
theorem s2 (h : Calls P f args (w.drewN (a + n)) fun e w' => e = .returned v ∧ w.drewN (a + n) = w') : Calls P f args (w.drewN (a + n)) fun e w'' => e = .returned v ∧ ∃ m, w'' = w.drewN (a + m) :=
  h.mono fun _ _ ⟨he, hm⟩ => ⟨he, n, hm.symm⟩
end
end Go.Proofs.Ytajipagpdphejaa
namespace Go.Proofs.Ytajipagpdphejaa
set_option linter.unusedVariables false
set_option linter.unusedSimpArgs false
open Go Go.RowKit

/-- a word of 32 bits -/
def W32 (x : Int) : Prop := 0 ≤ x ∧ x < 4294967296
/-- rotated to the right, as the walk spells it -/
def ror (x : Int) (n : Nat) : Int := bits .or .u32 (x * 2 ^ (32 - n) % 4294967296) (x / 2 ^ n)
theorem bits_u32_range (op : BinOp) (a b : Int) : W32 (bits op .u32 a b) := by
  unfold bits
  split <;> simp only [IntKind.wrap_u32'] <;> exact ⟨by omega, by omega⟩
theorem neg_and (n : Nat) (h1 : 1 ≤ n) (h2 : n ≤ 31) : bits .and .u64 (IntKind.u64.wrap (-(n : Int))) 31 = ((32 - n : Nat) : Int) := by
  have h := (by decide +kernel : ∀ m : Fin 32, 1 ≤ m.val → bits .and .u64 (IntKind.u64.wrap (-(m.val : Int))) 31 = ((32 - m.val : Nat) : Int)) ⟨n, by omega⟩ h1
  exact h

theorem rotl_any (x : Int) (n : Nat) (h1 : 1 ≤ n) (h2 : n ≤ 31) (hx : W32 x) (w : World) : Calls Try.prog 90 #[.int .u32 x, .int .i64 (-(n : Int))] w fun e w' => e = .returned (.int .u32 (ror x n)) ∧ w = w' := by
  obtain ⟨h3, h4⟩ := hx
  have hb := neg_and n h1 h2
  generalize hm : bits .and .u64 (IntKind.u64.wrap (-(n : Int))) 31 = m at *
  subst hb
  have e1 : 32 - (32 - n) = n := by omega
  have HM := Lib.hid e1; clear e1
  have hm1 : 1 ≤ 32 - n := by omega
  have hm2 : 32 - n ≤ 31 := by omega
  have hr : ror x n = bits .or .u32 (x * 2 ^ (32 - n) % 4294967296) (x / 2 ^ (32 - (32 - n))) := by rw [HM.out]; rfl
  have HR := Lib.hid hr; clear hr
  generalize 32 - n = k at *
  go_enter Try.func90, Try.ntmps90
  go_wp2
  go_ret
  exact ⟨ret_int HR.out.symm, rfl⟩

theorem right_any (x n : Int) (h1 : 1 ≤ n) (h2 : n ≤ 31) (hx : W32 x) (w : World) : Calls Try.prog 87 #[.int .u32 x, .int .i64 n] w fun e w' => e = .returned (.int .u32 (ror x n.toNat)) ∧ w = w' := by
  obtain ⟨n, rfl⟩ := Int.eq_ofNat_of_zero_le (show 0 ≤ n by omega)
  go_enter Try.func87, Try.ntmps87
  go_wp2_with (go_at_call 90; refine (rotl_any _ _ (by omega) (by omega) hx _).mono ?_; rintro e w' ⟨rfl, rfl⟩)
  go_ret
  exact ⟨rfl, rfl⟩

def Byte (x : Int) : Prop := 0 ≤ x ∧ x < 256
def Bytes (l : List Int) : Prop := ∀ x ∈ l, Byte x
theorem Bytes.getD {l : List Int} (h : Bytes l) (j : Nat) : Byte (l.getD j 0) := by
  by_cases hj : j < l.length
  · have : l.getD j 0 = l[j] := by simp [hj]
    rw [this]; exact h _ (List.getElem_mem hj)
  · have : l.getD j 0 = 0 := by simp [List.getD, List.getElem?_eq_none (by omega : l.length ≤ j)]
    rw [this]; exact ⟨by omega, by omega⟩
def Words (l : List Int) : Prop := ∀ x ∈ l, W32 x
theorem Words.getD {l : List Int} (h : Words l) (j : Nat) : W32 (l.getD j 0) := by
  by_cases hj : j < l.length
  · have : l.getD j 0 = l[j] := by simp [hj]
    rw [this]; exact h _ (List.getElem_mem hj)
  · have : l.getD j 0 = 0 := by simp [List.getD, List.getElem?_eq_none (by omega : l.length ≤ j)]
    rw [this]; exact ⟨by omega, by omega⟩
theorem mod_range (x : Int) : W32 (x % 4294967296) := ⟨by omega, by omega⟩

/-- four bytes, the greatest first -/
def word (l : List Int) (i : Nat) : Int := bits .or .u32 (bits .or .u32 (bits .or .u32 (l.getD (4 * i) 0 * 16777216) (l.getD (4 * i + 1) 0 * 65536)) (l.getD (4 * i + 2) 0 * 256)) (l.getD (4 * i + 3) 0)
def ssig0 (x : Int) : Int := bits .xor .u32 (bits .xor .u32 (ror x 7) (ror x 18)) (x / 8)
def ssig1 (x : Int) : Int := bits .xor .u32 (bits .xor .u32 (ror x 17) (ror x 19)) (x / 1024)
def snext (ws : List Int) (n : Nat) : Int := (ws.getD (n - 16) 0 + ws.getD (n - 7) 0 + ssig0 (ws.getD (n - 15) 0) + ssig1 (ws.getD (n - 2) 0)) % 4294967296
/-- the words of the steps -/
def sched (l : List Int) : Nat → List Int
  | 0 => []
  | n + 1 => sched l n ++ [if n < 16 then word l n else snext (sched l n) n]
theorem sched_length (l : List Int) (n : Nat) : (sched l n).length = n := by
  induction n with
  | zero => rfl
  | succ n ih => simp [sched, ih]
theorem sched_words (l : List Int) (n : Nat) : Words (sched l n) := by
  induction n with
  | zero => intro x hx; simp [sched] at hx
  | succ n ih =>
    intro x hx
    simp only [sched, List.mem_append, List.mem_singleton] at hx
    rcases hx with hx | rfl
    · exact ih x hx
    · split
      · exact bits_u32_range _ _ _
      · exact mod_range _
/-- the words so far, and noughts -/
def sbuf (l : List Int) (n : Nat) : List Int := sched l n ++ List.replicate (64 - n) 0
theorem sbuf_length (l : List Int) (n : Nat) (h : n ≤ 64) : (sbuf l n).length = 64 := by simp [sbuf, sched_length]; omega
theorem sbuf_getD (l : List Int) (n j : Nat) (h : j < n) : (sbuf l n).getD j 0 = (sched l n).getD j 0 := by
  simp [sbuf, List.getD, List.getElem?_append_left, sched_length, h]
theorem sbuf_set (l : List Int) (n : Nat) (h : n < 64) (x : Int) (hx : x = if n < 16 then word l n else snext (sched l n) n) : (sbuf l n).set n x = sbuf l (n + 1) := by
  subst hx
  unfold sbuf
  rw [List.set_append_right _ _ (by rw [sched_length]; omega)]
  simp only [sched_length, Nat.sub_self]
  rw [show 64 - n = (64 - (n + 1)) + 1 by omega, List.replicate_succ, List.set_cons_zero]
  rw [sched]
  simp
theorem sbuf_full (l : List Int) : sbuf l 64 = sched l 64 := by simp [sbuf]

/-! the rounds -/
def bsig1 (e : Int) : Int := bits .xor .u32 (bits .xor .u32 (ror e 6) (ror e 11)) (ror e 25)
def bsig0 (a : Int) : Int := bits .xor .u32 (bits .xor .u32 (ror a 2) (ror a 13)) (ror a 22)
def chf (e f g : Int) : Int := bits .xor .u32 (bits .and .u32 e f) (bits .and .u32 (bits .xor .u32 IntKind.u32.max e) g)
def majf (a b c : Int) : Int := bits .xor .u32 (bits .xor .u32 (bits .and .u32 a b) (bits .and .u32 a c)) (bits .and .u32 b c)
structure St where
  (a b c d e f g h : Int)
def St.list (s : St) : List Int := [s.a, s.b, s.c, s.d, s.e, s.f, s.g, s.h]
def St.ok (s : St) : Prop := W32 s.a ∧ W32 s.b ∧ W32 s.c ∧ W32 s.d ∧ W32 s.e ∧ W32 s.f ∧ W32 s.g ∧ W32 s.h
def tone (s : St) (k x : Int) : Int := (s.h + bsig1 s.e + chf s.e s.f s.g + k + x) % 4294967296
def ttwo (s : St) : Int := (bsig0 s.a + majf s.a s.b s.c) % 4294967296
def St.round (s : St) (k x : Int) : St := ⟨(tone s k x + ttwo s) % 4294967296, s.a, s.b, s.c, (s.d + tone s k x) % 4294967296, s.e, s.f, s.g⟩
def St.plus (s t : St) : St := ⟨(s.a + t.a) % 4294967296, (s.b + t.b) % 4294967296, (s.c + t.c) % 4294967296, (s.d + t.d) % 4294967296, (s.e + t.e) % 4294967296, (s.f + t.f) % 4294967296, (s.g + t.g) % 4294967296, (s.h + t.h) % 4294967296⟩
theorem St.round_ok {s : St} (h : s.ok) (k x : Int) : (s.round k x).ok := ⟨mod_range _, h.1, h.2.1, h.2.2.1, mod_range _, h.2.2.2.2.1, h.2.2.2.2.2.1, h.2.2.2.2.2.2.1⟩
theorem St.plus_ok (s t : St) : (s.plus t).ok := ⟨mod_range _, mod_range _, mod_range _, mod_range _, mod_range _, mod_range _, mod_range _, mod_range _⟩
def k256 : List Int := [0x428a2f98, 0x71374491, 0xb5c0fbcf, 0xe9b5dba5, 0x3956c25b, 0x59f111f1, 0x923f82a4, 0xab1c5ed5, 0xd807aa98, 0x12835b01, 0x243185be, 0x550c7dc3, 0x72be5d74, 0x80deb1fe, 0x9bdc06a7, 0xc19bf174, 0xe49b69c1, 0xefbe4786, 0x0fc19dc6, 0x240ca1cc, 0x2de92c6f, 0x4a7484aa, 0x5cb0a9dc, 0x76f988da, 0x983e5152, 0xa831c66d, 0xb00327c8, 0xbf597fc7, 0xc6e00bf3, 0xd5a79147, 0x06ca6351, 0x14292967, 0x27b70a85, 0x2e1b2138, 0x4d2c6dfc, 0x53380d13, 0x650a7354, 0x766a0abb, 0x81c2c92e, 0x92722c85, 0xa2bfe8a1, 0xa81a664b, 0xc24b8b70, 0xc76c51a3, 0xd192e819, 0xd6990624, 0xf40e3585, 0x106aa070, 0x19a4c116, 0x1e376c08, 0x2748774c, 0x34b0bcb5, 0x391c0cb3, 0x4ed8aa4a, 0x5b9cca4f, 0x682e6ff3, 0x748f82ee, 0x78a5636f, 0x84c87814, 0x8cc70208, 0x90befffa, 0xa4506ceb, 0xbef9a3f7, 0xc67178f2]
def rounds (s : St) (ws : List Int) : Nat → St
  | 0 => s
  | n + 1 => (rounds s ws n).round (k256.getD n 0) (ws.getD n 0)
theorem rounds_ok {s : St} (h : s.ok) (ws : List Int) (n : Nat) : (rounds s ws n).ok := by
  induction n with
  | zero => exact h
  | succ n ih => exact St.round_ok ih _ _
/-- one block of 64 bytes -/
def compress (s : St) (l : List Int) : St := s.plus (rounds s (sched l 64) 64)
def iv256 : St := ⟨0x6a09e667, 0xbb67ae85, 0x3c6ef372, 0xa54ff53a, 0x510e527f, 0x9b05688c, 0x1f83d9ab, 0x5be0cd19⟩
theorem iv256_ok : iv256.ok := by unfold St.ok iv256 W32; decide
theorem k256_words : Words k256 := by unfold Words W32; decide
theorem k256_length : k256.length = 64 := by decide
/-- n blocks, from a state on -/
def run256 (s : St) (l : List Int) : Nat → St
  | 0 => s
  | n + 1 => compress (run256 s l n) ((l.drop (64 * n)).take 64)
theorem run256_ok {s : St} (h : s.ok) (l : List Int) (n : Nat) : (run256 s l n).ok := by
  cases n with
  | zero => exact h
  | succ n => exact St.plus_ok _ _
theorem run256_add (s : St) (l : List Int) (q i : Nat) : run256 s l (q + i) = run256 (run256 s l q) (l.drop (64 * q)) i := by
  induction i with
  | zero => rfl
  | succ i ih =>
    rw [← Nat.add_assoc, run256, run256, ih, List.drop_drop, show 64 * (q + i) = 64 * q + 64 * i by omega]
theorem run256_append (s : St) (l r : List Int) (q : Nat) (h : 64 * q ≤ l.length) : run256 s (l ++ r) q = run256 s l q := by
  induction q with
  | zero => rfl
  | succ q ih =>
    rw [run256, run256, ih (by omega), List.drop_append_of_le_length (by omega), List.take_append_of_le_length (by simp; omega)]
/-- blocks taken behind those of before are those of all -/
theorem run256_more (s : St) (l r : List Int) (i : Nat) :
    run256 (run256 s l (l.length / 64)) (l.drop (64 * (l.length / 64)) ++ r) i = run256 s (l ++ r) (l.length / 64 + i) := by
  rw [run256_add, run256_append s l r (l.length / 64) (by omega), List.drop_append_of_le_length (by omega)]
end Go.Proofs.Ytajipagpdphejaa
