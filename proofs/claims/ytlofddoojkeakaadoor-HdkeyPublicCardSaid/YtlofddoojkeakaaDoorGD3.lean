/- Rotations of 64 bits: what bits.RotateLeft64, hash.right64 and the reference's rot64 hand back. The count is between 1 and 63. | SHA-512 on lists of numbers, as the walks spell it. Plain: no program. | The reference's SHA-256, word by word: what its loops hold. Plain: no program. -/
import Derived.Test.YtlofddoojkeakaaDoorProg
import Derived.Test.YtlofddoojkeakaaDoorGA0
import Derived.Laws.Bits64
import Derived.Test.YtlofddoojkeakaaDoorGD0
import Derived.Laws.BitsAllLaws
import Derived.Laws.BitsLemmas
namespace Go.Proofs.YtlofddoojkeakaaDoor.B64
set_option linter.unusedVariables false
set_option linter.unusedSimpArgs false
open Go Go.RowKit

/-- a word of 64 bits -/
def W64 (x : Int) : Prop := 0 ≤ x ∧ x < 18446744073709551616
/-- rotated to the right, as the walk spells it -/
def ror (x : Int) (n : Nat) : Int := bits .or .u64 (x * 2 ^ (64 - n) % 18446744073709551616) (x / 2 ^ n)
theorem bits_u64_range (op : BinOp) (a b : Int) : W64 (bits op .u64 a b) := by
  unfold bits
  split <;> simp only [IntKind.wrap_u64] <;> exact ⟨by omega, by omega⟩
theorem ror_range (x : Int) (n : Nat) : W64 (ror x n) := bits_u64_range _ _ _

theorem neg_and (n : Nat) (h1 : 1 ≤ n) (h2 : n ≤ 63) : bits .and .u64 (IntKind.u64.wrap (-(n : Int))) 63 = ((64 - n : Nat) : Int) := by
  have h := (by decide +kernel : ∀ m : Fin 64, 1 ≤ m.val → bits .and .u64 (IntKind.u64.wrap (-(m.val : Int))) 63 = ((64 - m.val : Nat) : Int)) ⟨n, by omega⟩ h1
  exact h

theorem rotl_any (x : Int) (n : Nat) (h1 : 1 ≤ n) (h2 : n ≤ 63) (hx : W64 x) (w : World) : Calls Tryd.prog 91 #[.int .u64 x, .int .i64 (-(n : Int))] w fun e w' => e = .returned (.int .u64 (ror x n)) ∧ w = w' := by
  obtain ⟨h3, h4⟩ := hx
  have hb := neg_and n h1 h2
  generalize hm : bits .and .u64 (IntKind.u64.wrap (-(n : Int))) 63 = m at *
  subst hb
  have e1 : 64 - (64 - n) = n := by omega
  have HM := Lib.hid e1; clear e1
  have hm1 : 1 ≤ 64 - n := by omega
  have hm2 : 64 - n ≤ 63 := by omega
  have hr : ror x n = bits .or .u64 (x * 2 ^ (64 - n) % 18446744073709551616) (x / 2 ^ (64 - (64 - n))) := by rw [HM.out]; rfl
  have HR := Lib.hid hr; clear hr
  generalize 64 - n = k at *
  go_enter Tryd.func91, Tryd.ntmps91
  go_wp2
  go_ret
  exact ⟨ret_int HR.out.symm, rfl⟩

theorem right_any (x n : Int) (h1 : 1 ≤ n) (h2 : n ≤ 63) (hx : W64 x) (w : World) : Calls Tryd.prog 72 #[.int .u64 x, .int .i64 n] w fun e w' => e = .returned (.int .u64 (ror x n.toNat)) ∧ w = w' := by
  obtain ⟨n, rfl⟩ := Int.eq_ofNat_of_zero_le (show 0 ≤ n by omega)
  go_enter Tryd.func72, Tryd.ntmps72
  go_wp2_with (go_at_call 91; refine (rotl_any _ _ (by omega) (by omega) hx _).mono ?_; rintro e w' ⟨rfl, rfl⟩)
  go_ret
  exact ⟨rfl, rfl⟩

def Words (l : List Int) : Prop := ∀ x ∈ l, W64 x
theorem Words.getD {l : List Int} (h : Words l) (j : Nat) : W64 (l.getD j 0) := by
  by_cases hj : j < l.length
  · have : l.getD j 0 = l[j] := by simp [hj]
    rw [this]; exact h _ (List.getElem_mem hj)
  · have : l.getD j 0 = 0 := by simp [List.getD, List.getElem?_eq_none (by omega : l.length ≤ j)]
    rw [this]; exact ⟨by omega, by omega⟩
theorem mod_range (x : Int) : W64 (x % 18446744073709551616) := ⟨by omega, by omega⟩

/-- eight bytes, the greatest first: after i of them -/
def wpart (l : List Int) (t : Nat) : Nat → Int
  | 0 => 0
  | i + 1 => (wpart l t i * 256 + l.getD (8 * t + i) 0) % 18446744073709551616
theorem wpart_range (l : List Int) (t i : Nat) : W64 (wpart l t i) := by
  cases i with
  | zero => exact ⟨by simp [wpart], by simp [wpart]⟩
  | succ i => exact ⟨by simp only [wpart]; omega, by simp only [wpart]; omega⟩
def word (l : List Int) (t : Nat) : Int := wpart l t 8
def ssig0 (x : Int) : Int := bits .xor .u64 (bits .xor .u64 (ror x 1) (ror x 8)) (x / 128)
def ssig1 (x : Int) : Int := bits .xor .u64 (bits .xor .u64 (ror x 19) (ror x 61)) (x / 64)
def snext (ws : List Int) (n : Nat) : Int := (ws.getD (n - 16) 0 + ws.getD (n - 7) 0 + ssig0 (ws.getD (n - 15) 0) + ssig1 (ws.getD (n - 2) 0)) % 18446744073709551616
/-- the words of the steps -/
def sched (l : List Int) : Nat → List Int
  | 0 => []
  | n + 1 => sched l n ++ [if n < 16 then word l n else snext (sched l n) n]
theorem sched_length (l : List Int) (n : Nat) : (sched l n).length = n := by
  induction n with
  | zero => rfl
  | succ n ih => simp [sched, ih]
theorem sched_words (l : List Int) (n : Nat) : Words (sched l n) := by
  induction n with
  | zero => intro x hx; simp [sched] at hx
  | succ n ih =>
    intro x hx
    simp only [sched, List.mem_append, List.mem_singleton] at hx
    rcases hx with hx | rfl
    · exact ih x hx
    · split
      · exact wpart_range _ _ _
      · exact mod_range _
/-- the words so far, and noughts -/
def sbuf (l : List Int) (n : Nat) : List Int := sched l n ++ List.replicate (80 - n) 0
theorem sbuf_length (l : List Int) (n : Nat) (h : n ≤ 80) : (sbuf l n).length = 80 := by simp [sbuf, sched_length]; omega
theorem sbuf_getD (l : List Int) (n j : Nat) (h : j < n) : (sbuf l n).getD j 0 = (sched l n).getD j 0 := by
  simp [sbuf, List.getD, List.getElem?_append_left, sched_length, h]
theorem sbuf_set (l : List Int) (n : Nat) (h : n < 80) (x : Int) (hx : x = if n < 16 then word l n else snext (sched l n) n) : (sbuf l n).set n x = sbuf l (n + 1) := by
  subst hx
  unfold sbuf
  rw [List.set_append_right _ _ (by rw [sched_length]; omega)]
  simp only [sched_length, Nat.sub_self]
  rw [show 80 - n = (80 - (n + 1)) + 1 by omega, List.replicate_succ, List.set_cons_zero]
  rw [sched]
  simp
theorem sbuf_full (l : List Int) : sbuf l 80 = sched l 80 := by simp [sbuf]

/-! the rounds -/
def bsig1 (e : Int) : Int := bits .xor .u64 (bits .xor .u64 (ror e 14) (ror e 18)) (ror e 41)
def bsig0 (a : Int) : Int := bits .xor .u64 (bits .xor .u64 (ror a 28) (ror a 34)) (ror a 39)
def chf (e f g : Int) : Int := bits .xor .u64 (bits .and .u64 e f) (bits .and .u64 (bits .xor .u64 IntKind.u64.max e) g)
def majf (a b c : Int) : Int := bits .xor .u64 (bits .xor .u64 (bits .and .u64 a b) (bits .and .u64 a c)) (bits .and .u64 b c)
structure St where
  (a b c d e f g h : Int)
def St.list (s : St) : List Int := [s.a, s.b, s.c, s.d, s.e, s.f, s.g, s.h]
def St.ok (s : St) : Prop := W64 s.a ∧ W64 s.b ∧ W64 s.c ∧ W64 s.d ∧ W64 s.e ∧ W64 s.f ∧ W64 s.g ∧ W64 s.h
def tone (s : St) (k x : Int) : Int := (s.h + bsig1 s.e + chf s.e s.f s.g + k + x) % 18446744073709551616
def ttwo (s : St) : Int := (bsig0 s.a + majf s.a s.b s.c) % 18446744073709551616
def St.round (s : St) (k x : Int) : St := ⟨(tone s k x + ttwo s) % 18446744073709551616, s.a, s.b, s.c, (s.d + tone s k x) % 18446744073709551616, s.e, s.f, s.g⟩
def St.plus (s t : St) : St := ⟨(s.a + t.a) % 18446744073709551616, (s.b + t.b) % 18446744073709551616, (s.c + t.c) % 18446744073709551616, (s.d + t.d) % 18446744073709551616, (s.e + t.e) % 18446744073709551616, (s.f + t.f) % 18446744073709551616, (s.g + t.g) % 18446744073709551616, (s.h + t.h) % 18446744073709551616⟩
theorem St.round_ok {s : St} (h : s.ok) (k x : Int) : (s.round k x).ok := ⟨mod_range _, h.1, h.2.1, h.2.2.1, mod_range _, h.2.2.2.2.1, h.2.2.2.2.2.1, h.2.2.2.2.2.2.1⟩
theorem St.plus_ok (s t : St) : (s.plus t).ok := ⟨mod_range _, mod_range _, mod_range _, mod_range _, mod_range _, mod_range _, mod_range _, mod_range _⟩
def k512 : List Int := [0x428a2f98d728ae22, 0x7137449123ef65cd, 0xb5c0fbcfec4d3b2f, 0xe9b5dba58189dbbc, 0x3956c25bf348b538, 0x59f111f1b605d019, 0x923f82a4af194f9b, 0xab1c5ed5da6d8118, 0xd807aa98a3030242, 0x12835b0145706fbe, 0x243185be4ee4b28c, 0x550c7dc3d5ffb4e2, 0x72be5d74f27b896f, 0x80deb1fe3b1696b1, 0x9bdc06a725c71235, 0xc19bf174cf692694, 0xe49b69c19ef14ad2, 0xefbe4786384f25e3, 0x0fc19dc68b8cd5b5, 0x240ca1cc77ac9c65, 0x2de92c6f592b0275, 0x4a7484aa6ea6e483, 0x5cb0a9dcbd41fbd4, 0x76f988da831153b5, 0x983e5152ee66dfab, 0xa831c66d2db43210, 0xb00327c898fb213f, 0xbf597fc7beef0ee4, 0xc6e00bf33da88fc2, 0xd5a79147930aa725, 0x06ca6351e003826f, 0x142929670a0e6e70, 0x27b70a8546d22ffc, 0x2e1b21385c26c926, 0x4d2c6dfc5ac42aed, 0x53380d139d95b3df, 0x650a73548baf63de, 0x766a0abb3c77b2a8, 0x81c2c92e47edaee6, 0x92722c851482353b, 0xa2bfe8a14cf10364, 0xa81a664bbc423001, 0xc24b8b70d0f89791, 0xc76c51a30654be30, 0xd192e819d6ef5218, 0xd69906245565a910, 0xf40e35855771202a, 0x106aa07032bbd1b8, 0x19a4c116b8d2d0c8, 0x1e376c085141ab53, 0x2748774cdf8eeb99, 0x34b0bcb5e19b48a8, 0x391c0cb3c5c95a63, 0x4ed8aa4ae3418acb, 0x5b9cca4f7763e373, 0x682e6ff3d6b2b8a3, 0x748f82ee5defb2fc, 0x78a5636f43172f60, 0x84c87814a1f0ab72, 0x8cc702081a6439ec, 0x90befffa23631e28, 0xa4506cebde82bde9, 0xbef9a3f7b2c67915, 0xc67178f2e372532b, 0xca273eceea26619c, 0xd186b8c721c0c207, 0xeada7dd6cde0eb1e, 0xf57d4f7fee6ed178, 0x06f067aa72176fba, 0x0a637dc5a2c898a6, 0x113f9804bef90dae, 0x1b710b35131c471b, 0x28db77f523047d84, 0x32caab7b40c72493, 0x3c9ebe0a15c9bebc, 0x431d67c49c100d4c, 0x4cc5d4becb3e42b6, 0x597f299cfc657e2a, 0x5fcb6fab3ad6faec, 0x6c44198c4a475817]
def rounds (s : St) (ws : List Int) : Nat → St
  | 0 => s
  | n + 1 => (rounds s ws n).round (k512.getD n 0) (ws.getD n 0)
theorem rounds_ok {s : St} (h : s.ok) (ws : List Int) (n : Nat) : (rounds s ws n).ok := by
  induction n with
  | zero => exact h
  | succ n ih => exact St.round_ok ih _ _
/-- one block of 128 bytes -/
def compress (s : St) (l : List Int) : St := s.plus (rounds s (sched l 80) 80)
def iv512 : St := ⟨0x6a09e667f3bcc908, 0xbb67ae8584caa73b, 0x3c6ef372fe94f82b, 0xa54ff53a5f1d36f1, 0x510e527fade682d1, 0x9b05688c2b3e6c1f, 0x1f83d9abfb41bd6b, 0x5be0cd19137e2179⟩
theorem iv512_ok : iv512.ok := by unfold St.ok iv512 W64; decide
theorem k512_words : Words k512 := by unfold Words W64; decide
theorem k512_length : k512.length = 80 := by decide
/-- n blocks, from a state on -/
def run512 (s : St) (l : List Int) : Nat → St
  | 0 => s
  | n + 1 => compress (run512 s l n) ((l.drop (128 * n)).take 128)
theorem run512_ok {s : St} (h : s.ok) (l : List Int) (n : Nat) : (run512 s l n).ok := by
  cases n with
  | zero => exact h
  | succ n => exact St.plus_ok _ _
end Go.Proofs.YtlofddoojkeakaaDoor.B64
namespace Go.Proofs.YtlofddoojkeakaaDoor
set_option linter.unusedVariables false
set_option linter.unusedSimpArgs false
open Go Go.RowKit

theorem w32_wraps (n : Int) (h₀ : 0 ≤ n) (h₁ : n < 2 ^ 32) : IntKind.u32.wrap n = n := by rw [IntKind.wrap_u32]; omega
theorem u32_join (i : Nat) (x y : Int) (hx₀ : 0 ≤ x) (hx : x % 2 ^ i = 0) (hx₁ : x < 2 ^ 32) (hy₀ : 0 ≤ y) (hy : y < 2 ^ i) (hy₁ : y < 2 ^ 32) : bits .or .u32 x y = x + y :=
  bits_join .u32 32 (by decide) w32_wraps i x y hx₀ hx hx₁ hy₀ hy hy₁
theorem word_sum {l : List Int} (h : Bytes l) (i : Nat) : word l i = l.getD (4 * i) 0 * 16777216 + l.getD (4 * i + 1) 0 * 65536 + l.getD (4 * i + 2) 0 * 256 + l.getD (4 * i + 3) 0 := by
  unfold word
  obtain ⟨a0, a1⟩ := h.getD (4 * i)
  obtain ⟨b0, b1⟩ := h.getD (4 * i + 1)
  obtain ⟨c0, c1⟩ := h.getD (4 * i + 2)
  obtain ⟨d0, d1⟩ := h.getD (4 * i + 3)
  generalize l.getD (4 * i) 0 = a at *
  generalize l.getD (4 * i + 1) 0 = b at *
  generalize l.getD (4 * i + 2) 0 = c at *
  generalize l.getD (4 * i + 3) 0 = d at *
  rw [u32_join 24 (a * 16777216) (b * 65536) (by omega) (by omega) (by omega) (by omega) (by omega) (by omega)]
  rw [u32_join 16 (a * 16777216 + b * 65536) (c * 256) (by omega) (by omega) (by omega) (by omega) (by omega) (by omega)]
  rw [u32_join 8 (a * 16777216 + b * 65536 + c * 256) d (by omega) (by omega) (by omega) (by omega) (by omega) (by omega)]
/-- the reference's word, after i of its bytes -/
def wpart (l : List Int) (t : Nat) : Nat → Int
  | 0 => 0
  | i + 1 => (wpart l t i * 256 + l.getD (4 * t + i) 0) % 4294967296
theorem wpart_full {l : List Int} (h : Bytes l) (t : Nat) : wpart l t 4 = word l t := by
  rw [word_sum h]
  simp only [wpart, Nat.add_zero]
  obtain ⟨a0, a1⟩ := h.getD (4 * t)
  obtain ⟨b0, b1⟩ := h.getD (4 * t + 1)
  obtain ⟨c0, c1⟩ := h.getD (4 * t + 2)
  obtain ⟨d0, d1⟩ := h.getD (4 * t + 3)
  omega
theorem wpart_range (l : List Int) (t i : Nat) : W32 (wpart l t i) := by
  cases i with
  | zero => exact ⟨by simp [wpart], by simp [wpart]⟩
  | succ i => exact ⟨by simp only [wpart]; omega, by simp only [wpart]; omega⟩
/-- the words so far, one that is being made, and noughts -/
def wbuf (l : List Int) (t i : Nat) : List Int := (sbuf l t).set t (wpart l t i)
theorem wbuf_zero (l : List Int) (t : Nat) (ht : t < 64) : wbuf l t 0 = sbuf l t := by
  unfold wbuf sbuf
  rw [List.set_append_right _ _ (by rw [sched_length]; omega)]
  simp only [sched_length, Nat.sub_self]
  rw [show 64 - t = (63 - t) + 1 by omega, List.replicate_succ]
  rfl
theorem wbuf_set (l : List Int) (t i : Nat) : (wbuf l t i).set t (wpart l t (i + 1)) = wbuf l t (i + 1) := by
  unfold wbuf; rw [List.set_set]
theorem wbuf_full {l : List Int} (h : Bytes l) (t : Nat) (ht : t < 16) : wbuf l t 4 = sbuf l (t + 1) := by
  unfold wbuf
  exact sbuf_set l t (by omega) _ (by rw [if_pos ht, wpart_full h])
theorem wbuf_length (l : List Int) (t i : Nat) (h : t ≤ 64) : (wbuf l t i).length = 64 := by unfold wbuf; rw [List.length_set, sbuf_length _ _ h]
theorem wbuf_getD (l : List Int) (t i : Nat) (h : t < 64) : (wbuf l t i).getD t 0 = wpart l t i := by
  unfold wbuf
  have : t < (sbuf l t).length := by rw [sbuf_length _ _ (by omega)]; exact h
  simp [List.getD, this]
theorem outB_getD (s : St) (i : Nat) (hi : i < 32) : (outB s.list).getD i 0 = s.list.getD (i / 4) 0 / 2 ^ (24 - 8 * (i % 4)) % 256 := by
  have : ∀ x : Int, x % 256 = x / 1 % 256 := fun x => by rw [Int.ediv_one]
  obtain ⟨a, b, c, d, e, f, g, h⟩ := s
  simp only [outB, St.list]
  rcases i with _ | _ | _ | _ | _ | _ | _ | _ | _ | _ | _ | _ | _ | _ | _ | _ | _ | _ | _ | _ | _ | _ | _ | _ | _ | _ | _ | _ | _ | _ | _ | _ | i
  all_goals first | rfl | exact this _ | omega
theorem outB_length (s : St) : (outB s.list).length = 32 := rfl
/-- the first i bytes, then noughts -/
def outR (s : St) (i : Nat) : List Int := (outB s.list).take i ++ List.replicate (32 - i) 0
theorem outR_zero (s : St) : outR s 0 = List.replicate 32 0 := rfl
theorem outR_full (s : St) : outR s 32 = outB s.list := by
  unfold outR
  rw [List.take_of_length_le (by rw [outB_length]; omega)]; simp
theorem outR_length (s : St) (i : Nat) (h : i ≤ 32) : (outR s i).length = 32 := by simp [outR, outB_length]; omega
theorem outR_set (s : St) (i : Nat) (h : i < 32) : (outR s i).set i (s.list.getD (i / 4) 0 / 2 ^ (24 - 8 * (i % 4)) % 256) = outR s (i + 1) := by
  rw [← outB_getD s i h]
  unfold outR
  rw [List.set_append_right _ _ (by simp [outB_length]; omega)]
  have e : i - ((outB s.list).take i).length = 0 := by simp [outB_length]; omega
  rw [e, show 32 - i = (32 - (i + 1)) + 1 by omega, List.replicate_succ, List.set_cons_zero]
  have hl : i < (outB s.list).length := by rw [outB_length]; exact h
  rw [List.take_succ_eq_append_getElem hl, List.append_assoc]
  simp [List.getD, hl]
end Go.Proofs.YtlofddoojkeakaaDoor
