/- RIPEMD-160 on lists of numbers, as the walks spell it. Plain: no program. -/
import Derived.Test.YtgdbaejcbfofoaaRefSha
import Derived.Test.YtgdbaejcbfofoaaFill
namespace Go.Proofs.Ytgdbaejcbfofoaa.Rip
set_option linter.unusedVariables false
set_option linter.unusedSimpArgs false
open Go Go.RowKit

def rL : List Nat := [0, 1, 2, 3, 4, 5, 6, 7, 8, 9, 10, 11, 12, 13, 14, 15, 7, 4, 13, 1, 10, 6, 15, 3, 12, 0, 9, 5, 2, 14, 11, 8, 3, 10, 14, 4, 9, 15, 8, 1, 2, 7, 0, 6, 13, 11, 5, 12, 1, 9, 11, 10, 0, 8, 12, 4, 13, 3, 7, 15, 14, 5, 6, 2, 4, 0, 5, 9, 7, 12, 2, 10, 14, 1, 3, 8, 11, 6, 15, 13]
def sL : List Nat := [11, 14, 15, 12, 5, 8, 7, 9, 11, 13, 14, 15, 6, 7, 9, 8, 7, 6, 8, 13, 11, 9, 7, 15, 7, 12, 15, 9, 11, 7, 13, 12, 11, 13, 6, 7, 14, 9, 13, 15, 14, 8, 13, 6, 5, 12, 7, 5, 11, 12, 14, 15, 14, 15, 9, 8, 9, 14, 5, 6, 8, 6, 5, 12, 9, 15, 5, 11, 6, 8, 13, 12, 5, 12, 13, 14, 11, 8, 5, 6]
def kL : List Int := [0, 0x5a827999, 0x6ed9eba1, 0x8f1bbcdc, 0xa953fd4e]
def rR : List Nat := [5, 14, 7, 0, 9, 2, 11, 4, 13, 6, 15, 8, 1, 10, 3, 12, 6, 11, 3, 7, 0, 13, 5, 10, 14, 15, 8, 12, 4, 9, 1, 2, 15, 5, 1, 3, 7, 14, 6, 9, 11, 8, 12, 2, 10, 0, 4, 13, 8, 6, 4, 1, 3, 11, 15, 0, 5, 12, 2, 13, 9, 7, 10, 14, 12, 15, 10, 4, 1, 5, 8, 7, 6, 2, 13, 14, 0, 3, 9, 11]
def sR : List Nat := [8, 9, 9, 11, 13, 15, 15, 5, 7, 7, 8, 11, 14, 14, 12, 6, 9, 13, 15, 7, 12, 8, 9, 11, 7, 7, 12, 7, 6, 15, 13, 11, 9, 7, 15, 11, 8, 6, 6, 14, 12, 13, 5, 14, 13, 13, 7, 5, 15, 5, 8, 11, 14, 14, 6, 14, 6, 9, 12, 9, 12, 5, 15, 8, 8, 5, 12, 9, 12, 5, 14, 6, 8, 13, 6, 5, 15, 13, 11, 11]
def kR : List Int := [0x50a28be6, 0x5c4dd124, 0x6d703ef3, 0x7a6d76e9, 0]
theorem rL_len : rL.length = 80 := rfl
theorem sL_len : sL.length = 80 := rfl
theorem rR_len : rR.length = 80 := rfl
theorem sR_len : sR.length = 80 := rfl
theorem rL_lt : ∀ i : Fin 80, rL.getD i.val 0 < 16 := by decide
theorem rR_lt : ∀ i : Fin 80, rR.getD i.val 0 < 16 := by decide
theorem sL_in : ∀ i : Fin 80, 5 ≤ sL.getD i.val 0 ∧ sL.getD i.val 0 ≤ 15 := by decide
theorem sR_in : ∀ i : Fin 80, 5 ≤ sR.getD i.val 0 ∧ sR.getD i.val 0 ≤ 15 := by decide
theorem kL_words : Words kL := by unfold Words W32; decide
theorem kR_words : Words kR := by unfold Words W32; decide
/-- numbers of a table, as integers -/
def ints (l : List Nat) : List Int := l.map fun (n : Nat) => (n : Int)
theorem ints_length (l : List Nat) : (ints l).length = l.length := by simp [ints]
theorem ints_getD (l : List Nat) (i : Nat) : (ints l).getD i 0 = ((l.getD i 0 : Nat) : Int) := by
  simp only [ints, List.getD, List.getElem?_map]
  cases l[i]? <;> rfl
/-- rotated to the left -/
def rol (x : Int) (k : Nat) : Int := ror x (32 - k)
theorem rol_range (x : Int) (k : Nat) : W32 (rol x k) := ror_range _ _
/-- the five ways to mix -/
def mixN (n : Nat) (b c d : Int) : Int :=
  match n with
  | 0 => bits .xor .u32 (bits .xor .u32 b c) d
  | 1 => bits .or .u32 (bits .and .u32 b c) (bits .and .u32 (bits .xor .u32 IntKind.u32.max b) d)
  | 2 => bits .xor .u32 (bits .or .u32 b (bits .xor .u32 IntKind.u32.max c)) d
  | 3 => bits .or .u32 (bits .and .u32 b d) (bits .andNot .u32 c d)
  | _ => bits .xor .u32 b (bits .or .u32 c (bits .xor .u32 IntKind.u32.max d))
theorem mixN_range (n : Nat) (b c d : Int) : W32 (mixN n b c d) := by
  unfold mixN
  split <;> exact bits_u32_range _ _ _
structure S5 where
  (a b c d e : Int)
def S5.list (s : S5) : List Int := [s.a, s.b, s.c, s.d, s.e]
def S5.ok (s : S5) : Prop := W32 s.a ∧ W32 s.b ∧ W32 s.c ∧ W32 s.d ∧ W32 s.e
def lineStep (s : S5) (way : Nat) (x k : Int) (sh : Nat) : S5 := ⟨s.e, (rol ((s.a + mixN way s.b s.c s.d + x + k) % 4294967296) sh + s.e) % 4294967296, s.b, rol s.c 10, s.d⟩
theorem lineStep_ok {s : S5} (h : s.ok) (way : Nat) (x k : Int) (sh : Nat) : (lineStep s way x k sh).ok := ⟨h.2.2.2.2, mod_range _, h.2.1, rol_range _ _, h.2.2.2.1⟩
def way (turned : Bool) (n : Nat) : Nat := if turned then 4 - n / 16 else n / 16
def lineRun (rt st : List Nat) (kt : List Int) (turned : Bool) (h : S5) (xs : List Int) : Nat → S5
  | 0 => h
  | n + 1 => lineStep (lineRun rt st kt turned h xs n) (way turned n) (xs.getD (rt.getD n 0) 0) (kt.getD (n / 16) 0) (st.getD n 0)
theorem lineRun_ok {rt st : List Nat} {kt : List Int} {turned : Bool} {h : S5} (ho : h.ok) (xs : List Int) (n : Nat) : (lineRun rt st kt turned h xs n).ok := by
  induction n with
  | zero => exact ho
  | succ n ih => exact lineStep_ok ih _ _ _ _
def S5.mix3 (h u v : S5) : S5 := ⟨(h.b + u.c + v.d) % 4294967296, (h.c + u.d + v.e) % 4294967296, (h.d + u.e + v.a) % 4294967296, (h.e + u.a + v.b) % 4294967296, (h.a + u.b + v.c) % 4294967296⟩
theorem S5.mix3_ok (h u v : S5) : (h.mix3 u v).ok := ⟨mod_range _, mod_range _, mod_range _, mod_range _, mod_range _⟩
/-- four bytes, the lowest first -/
def lword (l : List Int) (i : Nat) : Int := l.getD (4 * i) 0 + l.getD (4 * i + 1) 0 * 256 + l.getD (4 * i + 2) 0 * 65536 + l.getD (4 * i + 3) 0 * 16777216
theorem lword_range {l : List Int} (h : Bytes l) (i : Nat) : W32 (lword l i) := by
  unfold lword W32
  obtain ⟨a0, a1⟩ := h.getD (4 * i)
  obtain ⟨b0, b1⟩ := h.getD (4 * i + 1)
  obtain ⟨c0, c1⟩ := h.getD (4 * i + 2)
  obtain ⟨d0, d1⟩ := h.getD (4 * i + 3)
  omega
theorem bits_or_comm32 (a b : Int) : bits .or .u32 a b = bits .or .u32 b a := by
  simp [bits, BitVec.or_comm]
theorem lword_or {a b c d : Int} (ha : Byte a) (hb : Byte b) (hc : Byte c) (hd : Byte d) :
    bits .or .u32 (bits .or .u32 (bits .or .u32 a (b * 256)) (c * 65536)) (d * 16777216) = a + b * 256 + c * 65536 + d * 16777216 := by
  obtain ⟨a0, a1⟩ := ha
  obtain ⟨b0, b1⟩ := hb
  obtain ⟨c0, c1⟩ := hc
  obtain ⟨d0, d1⟩ := hd
  rw [bits_or_comm32 a, u32_join 8 (b * 256) a (by omega) (by omega) (by omega) (by omega) (by omega) (by omega)]
  rw [bits_or_comm32 _ (c * 65536), u32_join 16 (c * 65536) (b * 256 + a) (by omega) (by omega) (by omega) (by omega) (by omega) (by omega)]
  rw [bits_or_comm32 _ (d * 16777216), u32_join 24 (d * 16777216) (c * 65536 + (b * 256 + a)) (by omega) (by omega) (by omega) (by omega) (by omega) (by omega)]
  omega
/-- the words so far, and noughts -/
def xbuf (l : List Int) (i : Nat) : List Int := (List.range i).map (lword l) ++ List.replicate (16 - i) 0
theorem xbuf_length (l : List Int) (i : Nat) (h : i ≤ 16) : (xbuf l i).length = 16 := by simp [xbuf]; omega
theorem xbuf_getD (l : List Int) (i : Nat) : (xbuf l i).getD i 0 = 0 := by
  simp only [xbuf, List.getD]
  rw [List.getElem?_append_right (by simp), List.getElem?_replicate]
  split <;> rfl
theorem xbuf_set (l : List Int) (i : Nat) (h : i < 16) : (xbuf l i).set i (lword l i) = xbuf l (i + 1) := by
  unfold xbuf
  rw [List.set_append_right _ _ (by simp)]
  simp only [List.length_map, List.length_range, Nat.sub_self]
  rw [show 16 - i = (16 - (i + 1)) + 1 by omega, List.replicate_succ, List.set_cons_zero, List.range_succ]
  simp
theorem xbuf_words {l : List Int} (h : Bytes l) (i : Nat) : Words (xbuf l i) := by
  intro x hx
  simp only [xbuf, List.mem_append, List.mem_map, List.mem_replicate] at hx
  rcases hx with ⟨j, _, rfl⟩ | ⟨_, rfl⟩
  · exact lword_range h j
  · exact ⟨by omega, by omega⟩
/-- one block of 64 bytes -/
def block (h : S5) (l : List Int) : S5 := h.mix3 (lineRun rL sL kL false h (xbuf l 16) 80) (lineRun rR sR kR true h (xbuf l 16) 80)
def iv160 : S5 := ⟨0x67452301, 0xefcdab89, 0x98badcfe, 0x10325476, 0xc3d2e1f0⟩
theorem iv160_ok : iv160.ok := by unfold S5.ok iv160 W32; decide
def run160 (s : S5) (l : List Int) : Nat → S5
  | 0 => s
  | n + 1 => block (run160 s l n) ((l.drop (64 * n)).take 64)
theorem run160_ok {s : S5} (h : s.ok) (l : List Int) (n : Nat) : (run160 s l n).ok := by
  cases n with
  | zero => exact h
  | succ n => exact S5.mix3_ok _ _ _
theorem list_ok {s : S5} (h : s.ok) (i : Nat) : W32 (s.list.getD i 0) := by
  obtain ⟨h0, h1, h2, h3, h4⟩ := h
  rcases i with _ | _ | _ | _ | _ | i
  all_goals first | assumption | exact ⟨by simp [S5.list], by simp [S5.list]⟩
/-- the bytes of the words, the lowest first -/
def outB (ws : List Int) : List Int := (List.range 20).map fun i => ws.getD (i / 4) 0 / 2 ^ (8 * (i % 4)) % 256
theorem outB_length (ws : List Int) : (outB ws).length = 20 := by simp [outB]
theorem outB_getD (s : S5) (i : Nat) (hi : i < 20) : (outB s.list).getD i 0 = s.list.getD (i / 4) 0 / 2 ^ (8 * (i % 4)) % 256 := by
  simp [outB, List.getD, hi]
theorem outB_bytes (ws : List Int) : Bytes (outB ws) := by
  intro x hx
  obtain ⟨i, _, rfl⟩ := List.mem_map.1 hx
  unfold Byte; omega
def outR (s : S5) (i : Nat) : List Int := (outB s.list).take i ++ List.replicate (20 - i) 0
theorem outR_zero (s : S5) : outR s 0 = List.replicate 20 0 := rfl
theorem outR_full (s : S5) : outR s 20 = outB s.list := by
  unfold outR
  rw [List.take_of_length_le (by rw [outB_length]; omega)]; simp
theorem outR_length (s : S5) (i : Nat) (h : i ≤ 20) : (outR s i).length = 20 := by simp [outR, outB_length]; omega
theorem outR_set (s : S5) (i : Nat) (h : i < 20) : (outR s i).set i (s.list.getD (i / 4) 0 / 2 ^ (8 * (i % 4)) % 256) = outR s (i + 1) := by
  rw [← outB_getD s i h]
  unfold outR
  rw [List.set_append_right _ _ (by simp [outB_length]; omega)]
  have e : i - ((outB s.list).take i).length = 0 := by simp [outB_length]; omega
  rw [e, show 20 - i = (20 - (i + 1)) + 1 by omega, List.replicate_succ, List.set_cons_zero]
  have hl : i < (outB s.list).length := by rw [outB_length]; exact h
  rw [List.take_succ_eq_append_getElem hl, List.append_assoc]
  simp [List.getD, hl]
/-- RIPEMD-160 -/
def msg160 (l : List Int) : List Int := l ++ fillL 64 8 l.length true
def rip160 (l : List Int) : List Int := outB (run160 iv160 (msg160 l) ((msg160 l).length / 64)).list
theorem rip160_length (l : List Int) : (rip160 l).length = 20 := outB_length _
theorem rip160_bytes (l : List Int) : Bytes (rip160 l) := outB_bytes _

theorem rotl_pos (x k : Int) (h1 : 1 ≤ k) (h2 : k ≤ 31) (hx : W32 x) (w : World) : Calls Try.prog 126 #[.int .u32 x, .int .i64 k] w fun e w' => e = .returned (.int .u32 (rol x k.toNat)) ∧ w = w' := by
  obtain ⟨h3, h4⟩ := hx
  obtain ⟨k, rfl⟩ := Int.eq_ofNat_of_zero_le (show 0 ≤ k by omega)
  have hb : bits .and .u64 (k : Int) 31 = (k : Int) := (by decide +kernel : ∀ m : Fin 32, bits .and .u64 (m.val : Int) 31 = (m.val : Int)) ⟨k, by omega⟩
  have hr : rol x k = bits .or .u32 (x * 2 ^ k % 4294967296) (x / 2 ^ (32 - k)) := by
    unfold rol ror
    rw [show 32 - (32 - k) = k by omega]
  have HR := Lib.hid hr; clear hr
  go_enter Try.func126, Try.ntmps126
  go_wp2
  go_ret
  exact ⟨ret_int (by simpa using HR.out.symm), rfl⟩
theorem rot_pos (x k : Int) (h1 : 1 ≤ k) (h2 : k ≤ 31) (hx : W32 x) (w : World) : Calls Try.prog 63 #[.int .u32 x, .int .i64 k] w fun e w' => e = .returned (.int .u32 (rol x k.toNat)) ∧ w = w' := rot_any x k h1 h2 hx w
theorem mix_any (n : Nat) (hn : n ≤ 4) (b c d : Int) (hb : W32 b) (hc : W32 c) (hd : W32 d) (w : World) : Calls Try.prog 127 #[.int .i64 n, .int .u32 b, .int .u32 c, .int .u32 d] w fun e w' => e = .returned (.int .u32 (mixN n b c d)) ∧ w = w' := by
  obtain ⟨b0, b1⟩ := hb
  obtain ⟨c0, c1⟩ := hc
  obtain ⟨d0, d1⟩ := hd
  have h : n = 0 ∨ n = 1 ∨ n = 2 ∨ n = 3 ∨ n = 4 := by omega
  rcases h with rfl | rfl | rfl | rfl | rfl
  all_goals
    go_enter Try.func127, Try.ntmps127
    go_wp2
    go_ret
    exact ⟨rfl, rfl⟩
theorem f_any (n : Nat) (hn : n ≤ 4) (b c d : Int) (hb : W32 b) (hc : W32 c) (hd : W32 d) (w : World) : Calls Try.prog 101 #[.int .i64 n, .int .u32 b, .int .u32 c, .int .u32 d] w fun e w' => e = .returned (.int .u32 (mixN n b c d)) ∧ w = w' := by
  obtain ⟨b0, b1⟩ := hb
  obtain ⟨c0, c1⟩ := hc
  obtain ⟨d0, d1⟩ := hd
  have h : n = 0 ∨ n = 1 ∨ n = 2 ∨ n = 3 ∨ n = 4 := by omega
  rcases h with rfl | rfl | rfl | rfl | rfl
  all_goals
    go_enter Try.func101, Try.ntmps101
    go_wp2
    go_ret
    exact ⟨rfl, rfl⟩
end Go.Proofs.Ytgdbaejcbfofoaa.Rip
