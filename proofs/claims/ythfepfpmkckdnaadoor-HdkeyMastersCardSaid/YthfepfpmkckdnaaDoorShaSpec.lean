/- SHA-256 on lists of numbers, as the walks spell it. Plain: no program. -/
import Derived.Test.YthfepfpmkckdnaaDoorRot
namespace Go.Proofs.YthfepfpmkckdnaaDoor
set_option linter.unusedVariables false
set_option linter.unusedSimpArgs false
open Go Go.RowKit

def Byte (x : Int) : Prop := 0 ≤ x ∧ x < 256
def Bytes (l : List Int) : Prop := ∀ x ∈ l, Byte x
theorem Bytes.getD {l : List Int} (h : Bytes l) (j : Nat) : Byte (l.getD j 0) := by
  by_cases hj : j < l.length
  · have : l.getD j 0 = l[j] := by simp [hj]
    rw [this]; exact h _ (List.getElem_mem hj)
  · have : l.getD j 0 = 0 := by simp [List.getD, List.getElem?_eq_none (by omega : l.length ≤ j)]
    rw [this]; exact ⟨by omega, by omega⟩
def Words (l : List Int) : Prop := ∀ x ∈ l, W32 x
theorem Words.getD {l : List Int} (h : Words l) (j : Nat) : W32 (l.getD j 0) := by
  by_cases hj : j < l.length
  · have : l.getD j 0 = l[j] := by simp [hj]
    rw [this]; exact h _ (List.getElem_mem hj)
  · have : l.getD j 0 = 0 := by simp [List.getD, List.getElem?_eq_none (by omega : l.length ≤ j)]
    rw [this]; exact ⟨by omega, by omega⟩
theorem mod_range (x : Int) : W32 (x % 4294967296) := ⟨by omega, by omega⟩

/-- four bytes, the greatest first -/
def word (l : List Int) (i : Nat) : Int := bits .or .u32 (bits .or .u32 (bits .or .u32 (l.getD (4 * i) 0 * 16777216) (l.getD (4 * i + 1) 0 * 65536)) (l.getD (4 * i + 2) 0 * 256)) (l.getD (4 * i + 3) 0)
def ssig0 (x : Int) : Int := bits .xor .u32 (bits .xor .u32 (ror x 7) (ror x 18)) (x / 8)
def ssig1 (x : Int) : Int := bits .xor .u32 (bits .xor .u32 (ror x 17) (ror x 19)) (x / 1024)
def snext (ws : List Int) (n : Nat) : Int := (ws.getD (n - 16) 0 + ws.getD (n - 7) 0 + ssig0 (ws.getD (n - 15) 0) + ssig1 (ws.getD (n - 2) 0)) % 4294967296
/-- the words of the steps -/
def sched (l : List Int) : Nat → List Int
  | 0 => []
  | n + 1 => sched l n ++ [if n < 16 then word l n else snext (sched l n) n]
theorem sched_length (l : List Int) (n : Nat) : (sched l n).length = n := by
  induction n with
  | zero => rfl
  | succ n ih => simp [sched, ih]
theorem sched_words (l : List Int) (n : Nat) : Words (sched l n) := by
  induction n with
  | zero => intro x hx; simp [sched] at hx
  | succ n ih =>
    intro x hx
    simp only [sched, List.mem_append, List.mem_singleton] at hx
    rcases hx with hx | rfl
    · exact ih x hx
    · split
      · exact bits_u32_range _ _ _
      · exact mod_range _
/-- the words so far, and noughts -/
def sbuf (l : List Int) (n : Nat) : List Int := sched l n ++ List.replicate (64 - n) 0
theorem sbuf_length (l : List Int) (n : Nat) (h : n ≤ 64) : (sbuf l n).length = 64 := by simp [sbuf, sched_length]; omega
theorem sbuf_getD (l : List Int) (n j : Nat) (h : j < n) : (sbuf l n).getD j 0 = (sched l n).getD j 0 := by
  simp [sbuf, List.getD, List.getElem?_append_left, sched_length, h]
theorem sbuf_words (l : List Int) (n : Nat) : Words (sbuf l n) := by
  intro x hx
  simp only [sbuf, List.mem_append, List.mem_replicate] at hx
  rcases hx with hx | ⟨_, rfl⟩
  · exact sched_words l n x hx
  · exact ⟨by omega, by omega⟩
theorem sbuf_set (l : List Int) (n : Nat) (h : n < 64) (x : Int) (hx : x = if n < 16 then word l n else snext (sched l n) n) : (sbuf l n).set n x = sbuf l (n + 1) := by
  subst hx
  unfold sbuf
  rw [List.set_append_right _ _ (by rw [sched_length]; omega)]
  simp only [sched_length, Nat.sub_self]
  rw [show 64 - n = (64 - (n + 1)) + 1 by omega, List.replicate_succ, List.set_cons_zero]
  rw [sched]
  simp
theorem sbuf_full (l : List Int) : sbuf l 64 = sched l 64 := by simp [sbuf]

/-! the rounds -/
def bsig1 (e : Int) : Int := bits .xor .u32 (bits .xor .u32 (ror e 6) (ror e 11)) (ror e 25)
def bsig0 (a : Int) : Int := bits .xor .u32 (bits .xor .u32 (ror a 2) (ror a 13)) (ror a 22)
def chf (e f g : Int) : Int := bits .xor .u32 (bits .and .u32 e f) (bits .and .u32 (bits .xor .u32 IntKind.u32.max e) g)
def majf (a b c : Int) : Int := bits .xor .u32 (bits .xor .u32 (bits .and .u32 a b) (bits .and .u32 a c)) (bits .and .u32 b c)
structure St where
  (a b c d e f g h : Int)
def St.list (s : St) : List Int := [s.a, s.b, s.c, s.d, s.e, s.f, s.g, s.h]
def St.ok (s : St) : Prop := W32 s.a ∧ W32 s.b ∧ W32 s.c ∧ W32 s.d ∧ W32 s.e ∧ W32 s.f ∧ W32 s.g ∧ W32 s.h
def tone (s : St) (k x : Int) : Int := (s.h + bsig1 s.e + chf s.e s.f s.g + k + x) % 4294967296
def ttwo (s : St) : Int := (bsig0 s.a + majf s.a s.b s.c) % 4294967296
def St.round (s : St) (k x : Int) : St := ⟨(tone s k x + ttwo s) % 4294967296, s.a, s.b, s.c, (s.d + tone s k x) % 4294967296, s.e, s.f, s.g⟩
def St.plus (s t : St) : St := ⟨(s.a + t.a) % 4294967296, (s.b + t.b) % 4294967296, (s.c + t.c) % 4294967296, (s.d + t.d) % 4294967296, (s.e + t.e) % 4294967296, (s.f + t.f) % 4294967296, (s.g + t.g) % 4294967296, (s.h + t.h) % 4294967296⟩
theorem St.round_ok {s : St} (h : s.ok) (k x : Int) : (s.round k x).ok := ⟨mod_range _, h.1, h.2.1, h.2.2.1, mod_range _, h.2.2.2.2.1, h.2.2.2.2.2.1, h.2.2.2.2.2.2.1⟩
theorem St.plus_ok (s t : St) : (s.plus t).ok := ⟨mod_range _, mod_range _, mod_range _, mod_range _, mod_range _, mod_range _, mod_range _, mod_range _⟩
def k256 : List Int := [0x428a2f98, 0x71374491, 0xb5c0fbcf, 0xe9b5dba5, 0x3956c25b, 0x59f111f1, 0x923f82a4, 0xab1c5ed5, 0xd807aa98, 0x12835b01, 0x243185be, 0x550c7dc3, 0x72be5d74, 0x80deb1fe, 0x9bdc06a7, 0xc19bf174, 0xe49b69c1, 0xefbe4786, 0x0fc19dc6, 0x240ca1cc, 0x2de92c6f, 0x4a7484aa, 0x5cb0a9dc, 0x76f988da, 0x983e5152, 0xa831c66d, 0xb00327c8, 0xbf597fc7, 0xc6e00bf3, 0xd5a79147, 0x06ca6351, 0x14292967, 0x27b70a85, 0x2e1b2138, 0x4d2c6dfc, 0x53380d13, 0x650a7354, 0x766a0abb, 0x81c2c92e, 0x92722c85, 0xa2bfe8a1, 0xa81a664b, 0xc24b8b70, 0xc76c51a3, 0xd192e819, 0xd6990624, 0xf40e3585, 0x106aa070, 0x19a4c116, 0x1e376c08, 0x2748774c, 0x34b0bcb5, 0x391c0cb3, 0x4ed8aa4a, 0x5b9cca4f, 0x682e6ff3, 0x748f82ee, 0x78a5636f, 0x84c87814, 0x8cc70208, 0x90befffa, 0xa4506ceb, 0xbef9a3f7, 0xc67178f2]
def rounds (s : St) (ws : List Int) : Nat → St
  | 0 => s
  | n + 1 => (rounds s ws n).round (k256.getD n 0) (ws.getD n 0)
theorem rounds_ok {s : St} (h : s.ok) (ws : List Int) (n : Nat) : (rounds s ws n).ok := by
  induction n with
  | zero => exact h
  | succ n ih => exact St.round_ok ih _ _
/-- one block of 64 bytes -/
def compress (s : St) (l : List Int) : St := s.plus (rounds s (sched l 64) 64)
def iv256 : St := ⟨0x6a09e667, 0xbb67ae85, 0x3c6ef372, 0xa54ff53a, 0x510e527f, 0x9b05688c, 0x1f83d9ab, 0x5be0cd19⟩
theorem iv256_ok : iv256.ok := by unfold St.ok iv256 W32; decide
theorem k256_words : Words k256 := by unfold Words W32; decide
theorem k256_length : k256.length = 64 := by decide
/-- n blocks, from a state on -/
def run256 (s : St) (l : List Int) : Nat → St
  | 0 => s
  | n + 1 => compress (run256 s l n) ((l.drop (64 * n)).take 64)
theorem run256_ok {s : St} (h : s.ok) (l : List Int) (n : Nat) : (run256 s l n).ok := by
  cases n with
  | zero => exact h
  | succ n => exact St.plus_ok _ _
theorem run256_add (s : St) (l : List Int) (q i : Nat) : run256 s l (q + i) = run256 (run256 s l q) (l.drop (64 * q)) i := by
  induction i with
  | zero => rfl
  | succ i ih =>
    rw [← Nat.add_assoc, run256, run256, ih, List.drop_drop, show 64 * (q + i) = 64 * q + 64 * i by omega]
theorem run256_append (s : St) (l r : List Int) (q : Nat) (h : 64 * q ≤ l.length) : run256 s (l ++ r) q = run256 s l q := by
  induction q with
  | zero => rfl
  | succ q ih =>
    rw [run256, run256, ih (by omega), List.drop_append_of_le_length (by omega), List.take_append_of_le_length (by simp; omega)]
/-- blocks taken behind those of before are those of all -/
theorem run256_more (s : St) (l r : List Int) (i : Nat) :
    run256 (run256 s l (l.length / 64)) (l.drop (64 * (l.length / 64)) ++ r) i = run256 s (l ++ r) (l.length / 64 + i) := by
  rw [run256_add, run256_append s l r (l.length / 64) (by omega), List.drop_append_of_le_length (by omega)]
end Go.Proofs.YthfepfpmkckdnaaDoor
