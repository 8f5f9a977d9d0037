/- RIPEMD-160 on lists of numbers, as the walks spell it. Plain: no program. | hash's line of RIPEMD-160: eighty steps, in either direction of mixing. -/
import Derived.Test.YtlofddoojkeakaaDoorGD3
import Derived.Test.YtlofddoojkeakaaDoorGD2
namespace Go.Proofs.YtlofddoojkeakaaDoor.Rip
set_option linter.unusedVariables false
set_option linter.unusedSimpArgs false
open Go Go.RowKit

def rL : List Nat := [0, 1, 2, 3, 4, 5, 6, 7, 8, 9, 10, 11, 12, 13, 14, 15, 7, 4, 13, 1, 10, 6, 15, 3, 12, 0, 9, 5, 2, 14, 11, 8, 3, 10, 14, 4, 9, 15, 8, 1, 2, 7, 0, 6, 13, 11, 5, 12, 1, 9, 11, 10, 0, 8, 12, 4, 13, 3, 7, 15, 14, 5, 6, 2, 4, 0, 5, 9, 7, 12, 2, 10, 14, 1, 3, 8, 11, 6, 15, 13]
def sL : List Nat := [11, 14, 15, 12, 5, 8, 7, 9, 11, 13, 14, 15, 6, 7, 9, 8, 7, 6, 8, 13, 11, 9, 7, 15, 7, 12, 15, 9, 11, 7, 13, 12, 11, 13, 6, 7, 14, 9, 13, 15, 14, 8, 13, 6, 5, 12, 7, 5, 11, 12, 14, 15, 14, 15, 9, 8, 9, 14, 5, 6, 8, 6, 5, 12, 9, 15, 5, 11, 6, 8, 13, 12, 5, 12, 13, 14, 11, 8, 5, 6]
def kL : List Int := [0, 0x5a827999, 0x6ed9eba1, 0x8f1bbcdc, 0xa953fd4e]
def rR : List Nat := [5, 14, 7, 0, 9, 2, 11, 4, 13, 6, 15, 8, 1, 10, 3, 12, 6, 11, 3, 7, 0, 13, 5, 10, 14, 15, 8, 12, 4, 9, 1, 2, 15, 5, 1, 3, 7, 14, 6, 9, 11, 8, 12, 2, 10, 0, 4, 13, 8, 6, 4, 1, 3, 11, 15, 0, 5, 12, 2, 13, 9, 7, 10, 14, 12, 15, 10, 4, 1, 5, 8, 7, 6, 2, 13, 14, 0, 3, 9, 11]
def sR : List Nat := [8, 9, 9, 11, 13, 15, 15, 5, 7, 7, 8, 11, 14, 14, 12, 6, 9, 13, 15, 7, 12, 8, 9, 11, 7, 7, 12, 7, 6, 15, 13, 11, 9, 7, 15, 11, 8, 6, 6, 14, 12, 13, 5, 14, 13, 13, 7, 5, 15, 5, 8, 11, 14, 14, 6, 14, 6, 9, 12, 9, 12, 5, 15, 8, 8, 5, 12, 9, 12, 5, 14, 6, 8, 13, 6, 5, 15, 13, 11, 11]
def kR : List Int := [0x50a28be6, 0x5c4dd124, 0x6d703ef3, 0x7a6d76e9, 0]
theorem rL_lt : ∀ i : Fin 80, rL.getD i.val 0 < 16 := by decide
theorem rR_lt : ∀ i : Fin 80, rR.getD i.val 0 < 16 := by decide
theorem sL_in : ∀ i : Fin 80, 5 ≤ sL.getD i.val 0 ∧ sL.getD i.val 0 ≤ 15 := by decide
theorem sR_in : ∀ i : Fin 80, 5 ≤ sR.getD i.val 0 ∧ sR.getD i.val 0 ≤ 15 := by decide
theorem kL_words : Words kL := by unfold Words W32; decide
theorem kR_words : Words kR := by unfold Words W32; decide
/-- numbers of a table, as integers -/
def ints (l : List Nat) : List Int := l.map fun (n : Nat) => (n : Int)
theorem ints_length (l : List Nat) : (ints l).length = l.length := by simp [ints]
theorem ints_getD (l : List Nat) (i : Nat) : (ints l).getD i 0 = ((l.getD i 0 : Nat) : Int) := by
  simp only [ints, List.getD, List.getElem?_map]
  cases l[i]? <;> rfl
/-- rotated to the left -/
def rol (x : Int) (k : Nat) : Int := ror x (32 - k)
theorem rol_range (x : Int) (k : Nat) : W32 (rol x k) := ror_range _ _
/-- the five ways to mix -/
def mixN (n : Nat) (b c d : Int) : Int :=
  match n with
  | 0 => bits .xor .u32 (bits .xor .u32 b c) d
  | 1 => bits .or .u32 (bits .and .u32 b c) (bits .and .u32 (bits .xor .u32 IntKind.u32.max b) d)
  | 2 => bits .xor .u32 (bits .or .u32 b (bits .xor .u32 IntKind.u32.max c)) d
  | 3 => bits .or .u32 (bits .and .u32 b d) (bits .andNot .u32 c d)
  | _ => bits .xor .u32 b (bits .or .u32 c (bits .xor .u32 IntKind.u32.max d))
structure S5 where
  (a b c d e : Int)
def S5.list (s : S5) : List Int := [s.a, s.b, s.c, s.d, s.e]
def S5.ok (s : S5) : Prop := W32 s.a ∧ W32 s.b ∧ W32 s.c ∧ W32 s.d ∧ W32 s.e
def lineStep (s : S5) (way : Nat) (x k : Int) (sh : Nat) : S5 := ⟨s.e, (rol ((s.a + mixN way s.b s.c s.d + x + k) % 4294967296) sh + s.e) % 4294967296, s.b, rol s.c 10, s.d⟩
theorem lineStep_ok {s : S5} (h : s.ok) (way : Nat) (x k : Int) (sh : Nat) : (lineStep s way x k sh).ok := ⟨h.2.2.2.2, mod_range _, h.2.1, rol_range _ _, h.2.2.2.1⟩
def way (turned : Bool) (n : Nat) : Nat := if turned then 4 - n / 16 else n / 16
def lineRun (rt st : List Nat) (kt : List Int) (turned : Bool) (h : S5) (xs : List Int) : Nat → S5
  | 0 => h
  | n + 1 => lineStep (lineRun rt st kt turned h xs n) (way turned n) (xs.getD (rt.getD n 0) 0) (kt.getD (n / 16) 0) (st.getD n 0)
theorem lineRun_ok {rt st : List Nat} {kt : List Int} {turned : Bool} {h : S5} (ho : h.ok) (xs : List Int) (n : Nat) : (lineRun rt st kt turned h xs n).ok := by
  induction n with
  | zero => exact ho
  | succ n ih => exact lineStep_ok ih _ _ _ _
def S5.mix3 (h u v : S5) : S5 := ⟨(h.b + u.c + v.d) % 4294967296, (h.c + u.d + v.e) % 4294967296, (h.d + u.e + v.a) % 4294967296, (h.e + u.a + v.b) % 4294967296, (h.a + u.b + v.c) % 4294967296⟩
theorem S5.mix3_ok (h u v : S5) : (h.mix3 u v).ok := ⟨mod_range _, mod_range _, mod_range _, mod_range _, mod_range _⟩
/-- four bytes, the lowest first -/
def lword (l : List Int) (i : Nat) : Int := l.getD (4 * i) 0 + l.getD (4 * i + 1) 0 * 256 + l.getD (4 * i + 2) 0 * 65536 + l.getD (4 * i + 3) 0 * 16777216
theorem lword_range {l : List Int} (h : Bytes l) (i : Nat) : W32 (lword l i) := by
  unfold lword W32
  obtain ⟨a0, a1⟩ := h.getD (4 * i)
  obtain ⟨b0, b1⟩ := h.getD (4 * i + 1)
  obtain ⟨c0, c1⟩ := h.getD (4 * i + 2)
  obtain ⟨d0, d1⟩ := h.getD (4 * i + 3)
  omega
theorem bits_or_comm32 (a b : Int) : bits .or .u32 a b = bits .or .u32 b a := by
  simp [bits, BitVec.or_comm]
theorem lword_or {a b c d : Int} (ha : Byte a) (hb : Byte b) (hc : Byte c) (hd : Byte d) :
    bits .or .u32 (bits .or .u32 (bits .or .u32 a (b * 256)) (c * 65536)) (d * 16777216) = a + b * 256 + c * 65536 + d * 16777216 := by
  obtain ⟨a0, a1⟩ := ha
  obtain ⟨b0, b1⟩ := hb
  obtain ⟨c0, c1⟩ := hc
  obtain ⟨d0, d1⟩ := hd
  rw [bits_or_comm32 a, u32_join 8 (b * 256) a (by omega) (by omega) (by omega) (by omega) (by omega) (by omega)]
  rw [bits_or_comm32 _ (c * 65536), u32_join 16 (c * 65536) (b * 256 + a) (by omega) (by omega) (by omega) (by omega) (by omega) (by omega)]
  rw [bits_or_comm32 _ (d * 16777216), u32_join 24 (d * 16777216) (c * 65536 + (b * 256 + a)) (by omega) (by omega) (by omega) (by omega) (by omega) (by omega)]
  omega
/-- the words so far, and noughts -/
def xbuf (l : List Int) (i : Nat) : List Int := (List.range i).map (lword l) ++ List.replicate (16 - i) 0
theorem xbuf_length (l : List Int) (i : Nat) (h : i ≤ 16) : (xbuf l i).length = 16 := by simp [xbuf]; omega
theorem xbuf_set (l : List Int) (i : Nat) (h : i < 16) : (xbuf l i).set i (lword l i) = xbuf l (i + 1) := by
  unfold xbuf
  rw [List.set_append_right _ _ (by simp)]
  simp only [List.length_map, List.length_range, Nat.sub_self]
  rw [show 16 - i = (16 - (i + 1)) + 1 by omega, List.replicate_succ, List.set_cons_zero, List.range_succ]
  simp
theorem xbuf_words {l : List Int} (h : Bytes l) (i : Nat) : Words (xbuf l i) := by
  intro x hx
  simp only [xbuf, List.mem_append, List.mem_map, List.mem_replicate] at hx
  rcases hx with ⟨j, _, rfl⟩ | ⟨_, rfl⟩
  · exact lword_range h j
  · exact ⟨by omega, by omega⟩
/-- one block of 64 bytes -/
def block (h : S5) (l : List Int) : S5 := h.mix3 (lineRun rL sL kL false h (xbuf l 16) 80) (lineRun rR sR kR true h (xbuf l 16) 80)
def iv160 : S5 := ⟨0x67452301, 0xefcdab89, 0x98badcfe, 0x10325476, 0xc3d2e1f0⟩
theorem iv160_ok : iv160.ok := by unfold S5.ok iv160 W32; decide
def run160 (s : S5) (l : List Int) : Nat → S5
  | 0 => s
  | n + 1 => block (run160 s l n) ((l.drop (64 * n)).take 64)
theorem run160_ok {s : S5} (h : s.ok) (l : List Int) (n : Nat) : (run160 s l n).ok := by
  cases n with
  | zero => exact h
  | succ n => exact S5.mix3_ok _ _ _
theorem list_ok {s : S5} (h : s.ok) (i : Nat) : W32 (s.list.getD i 0) := by
  obtain ⟨h0, h1, h2, h3, h4⟩ := h
  rcases i with _ | _ | _ | _ | _ | i
  all_goals first | assumption | exact ⟨by simp [S5.list], by simp [S5.list]⟩
/-- the bytes of the words, the lowest first -/
def outB (ws : List Int) : List Int := (List.range 20).map fun i => ws.getD (i / 4) 0 / 2 ^ (8 * (i % 4)) % 256
theorem outB_length (ws : List Int) : (outB ws).length = 20 := by simp [outB]
theorem outB_getD (s : S5) (i : Nat) (hi : i < 20) : (outB s.list).getD i 0 = s.list.getD (i / 4) 0 / 2 ^ (8 * (i % 4)) % 256 := by
  simp [outB, List.getD, hi]
theorem outB_bytes (ws : List Int) : Bytes (outB ws) := by
  intro x hx
  obtain ⟨i, _, rfl⟩ := List.mem_map.1 hx
  unfold Byte; omega
def outR (s : S5) (i : Nat) : List Int := (outB s.list).take i ++ List.replicate (20 - i) 0
theorem outR_zero (s : S5) : outR s 0 = List.replicate 20 0 := rfl
theorem outR_full (s : S5) : outR s 20 = outB s.list := by
  unfold outR
  rw [List.take_of_length_le (by rw [outB_length]; omega)]; simp
theorem outR_length (s : S5) (i : Nat) (h : i ≤ 20) : (outR s i).length = 20 := by simp [outR, outB_length]; omega
theorem outR_set (s : S5) (i : Nat) (h : i < 20) : (outR s i).set i (s.list.getD (i / 4) 0 / 2 ^ (8 * (i % 4)) % 256) = outR s (i + 1) := by
  rw [← outB_getD s i h]
  unfold outR
  rw [List.set_append_right _ _ (by simp [outB_length]; omega)]
  have e : i - ((outB s.list).take i).length = 0 := by simp [outB_length]; omega
  rw [e, show 20 - i = (20 - (i + 1)) + 1 by omega, List.replicate_succ, List.set_cons_zero]
  have hl : i < (outB s.list).length := by rw [outB_length]; exact h
  rw [List.take_succ_eq_append_getElem hl, List.append_assoc]
  simp [List.getD, hl]
/-- RIPEMD-160 -/
def msg160 (l : List Int) : List Int := l ++ fillL 64 8 l.length true
def rip160 (l : List Int) : List Int := outB (run160 iv160 (msg160 l) ((msg160 l).length / 64)).list
theorem rip160_length (l : List Int) : (rip160 l).length = 20 := outB_length _
theorem rip160_bytes (l : List Int) : Bytes (rip160 l) := outB_bytes _

theorem rotl_pos (x k : Int) (h1 : 1 ≤ k) (h2 : k ≤ 31) (hx : W32 x) (w : World) : Calls Tryd.prog 84 #[.int .u32 x, .int .i64 k] w fun e w' => e = .returned (.int .u32 (rol x k.toNat)) ∧ w = w' := by
  obtain ⟨h3, h4⟩ := hx
  obtain ⟨k, rfl⟩ := Int.eq_ofNat_of_zero_le (show 0 ≤ k by omega)
  have hb : bits .and .u64 (k : Int) 31 = (k : Int) := (by decide +kernel : ∀ m : Fin 32, bits .and .u64 (m.val : Int) 31 = (m.val : Int)) ⟨k, by omega⟩
  have hr : rol x k = bits .or .u32 (x * 2 ^ k % 4294967296) (x / 2 ^ (32 - k)) := by
    unfold rol ror
    rw [show 32 - (32 - k) = k by omega]
  have HR := Lib.hid hr; clear hr
  go_enter Tryd.func84, Tryd.ntmps84
  go_wp2
  go_ret
  exact ⟨ret_int (by simpa using HR.out.symm), rfl⟩
theorem mix_any (n : Nat) (hn : n ≤ 4) (b c d : Int) (hb : W32 b) (hc : W32 c) (hd : W32 d) (w : World) : Calls Tryd.prog 85 #[.int .i64 n, .int .u32 b, .int .u32 c, .int .u32 d] w fun e w' => e = .returned (.int .u32 (mixN n b c d)) ∧ w = w' := by
  obtain ⟨b0, b1⟩ := hb
  obtain ⟨c0, c1⟩ := hc
  obtain ⟨d0, d1⟩ := hd
  have h : n = 0 ∨ n = 1 ∨ n = 2 ∨ n = 3 ∨ n = 4 := by omega
  rcases h with rfl | rfl | rfl | rfl | rfl
  all_goals
    go_enter Tryd.func85, Tryd.ntmps85
    go_wp2
    go_ret
    exact ⟨rfl, rfl⟩
/-- the tables of a line, as a value's cells -/
def roundsV (rt st : List Nat) (kt : List Int) : List Value := (ints rt).map (Value.int .i64) ++ ((ints st).map (Value.int .i64) ++ kt.map (Value.int .u32))
structure TabOk (rt st : List Nat) (kt : List Int) : Prop where
  rl : rt.length = 80
  sl : st.length = 80
  kl : kt.length = 5
  r : ∀ i, i < 80 → rt.getD i 0 < 16
  s : ∀ i, i < 80 → 5 ≤ st.getD i 0 ∧ st.getD i 0 ≤ 15
  k : Words kt
theorem tabL : TabOk rL sL kL := ⟨rfl, rfl, rfl, fun i h => rL_lt ⟨i, h⟩, fun i h => sL_in ⟨i, h⟩, kL_words⟩
theorem tabR : TabOk rR sR kR := ⟨rfl, rfl, rfl, fun i h => rR_lt ⟨i, h⟩, fun i h => sR_in ⟨i, h⟩, kR_words⟩
theorem roundsV_length {rt st : List Nat} {kt : List Int} (h : TabOk rt st kt) : (roundsV rt st kt).length = 165 := by simp [roundsV, ints_length, h.rl, h.sl, h.kl]
theorem row_tabs {W : World} {b o : Nat} {rt st : List Nat} {kt : List Int} (h : TabOk rt st kt) (hr : Row W b o (roundsV rt st kt)) (i : Nat) (hi : i < 80) :
    W.cell? ⟨b, o + i, none⟩ = some (.int .i64 ((rt.getD i 0 : Nat) : Int)) ∧ W.cell? ⟨b, o + 80 + i, none⟩ = some (.int .i64 ((st.getD i 0 : Nat) : Int)) ∧ W.cell? ⟨b, o + 160 + i / 16, none⟩ = some (.int .u32 (kt.getD (i / 16) 0)) := by
  have hl := h.rl; have hl2 := h.sl; have hl3 := h.kl
  refine ⟨?_, ?_, ?_⟩
  · refine (hr i _ ?_).1
    rw [roundsV, List.getElem?_append_left (by simp [ints_length, hl]; exact hi), List.getElem?_map, ← ints_getD]
    simp [List.getD, ints_length, hl, hi]
  · rw [Nat.add_assoc]
    refine (hr (80 + i) _ ?_).1
    rw [roundsV, List.getElem?_append_right (by simp [ints_length, hl]), List.getElem?_append_left (by simp [ints_length, hl, hl2]; exact hi), List.getElem?_map, ← ints_getD]
    simp [List.getD, ints_length, hl, hl2, hi]
  · rw [Nat.add_assoc]
    refine (hr (160 + i / 16) _ ?_).1
    rw [roundsV, List.getElem?_append_right (by simp [ints_length, hl]; omega), List.getElem?_append_right (by simp [ints_length, hl, hl2]; omega), List.getElem?_map]
    simp only [List.length_map, ints_length, hl, hl2]
    rw [show 160 + i / 16 - 80 - 80 = i / 16 by omega]
    have : i / 16 < kt.length := by omega
    simp [List.getD, this]
theorem S5.cells {w : World} {b : Nat} {s : S5} (h : Row w b 0 (s.list.map (Value.int .u32))) : w.cell? ⟨b, 0, none⟩ = some (.int .u32 s.a) ∧ w.cell? ⟨b, 1, none⟩ = some (.int .u32 s.b) ∧ w.cell? ⟨b, 2, none⟩ = some (.int .u32 s.c) ∧ w.cell? ⟨b, 3, none⟩ = some (.int .u32 s.d)
    ∧ w.cell? ⟨b, 4, none⟩ = some (.int .u32 s.e) :=
  ⟨h.int0 0 (by simp [S5.list]), h.int0 1 (by simp [S5.list]), h.int0 2 (by simp [S5.list]), h.int0 3 (by simp [S5.list]), h.int0 4 (by simp [S5.list])⟩
theorem sz5 : (Tryd.prog.info? 121).map (·.size) = some 5 := by kernel_rfl
theorem mix_int (m : Int) (h0 : 0 ≤ m) (h4 : m ≤ 4) (b c d : Int) (hb : W32 b) (hc : W32 c) (hd : W32 d) (w : World) : Calls Tryd.prog 85 #[.int .i64 m, .int .u32 b, .int .u32 c, .int .u32 d] w fun e w' => e = .returned (.int .u32 (mixN m.toNat b c d)) ∧ w = w' := by
  obtain ⟨n, rfl⟩ := Int.eq_ofNat_of_zero_le h0
  exact mix_any n (by omega) b c d hb hc hd w
set_option maxHeartbeats 800000 in
set_option maxRecDepth 100000 in
theorem line_any (rt st : List Nat) (kt : List Int) (T : TabOk rt st kt) (turned : Bool) (h : S5) (ho : h.ok) (xs : List Int) (hx : xs.length = 16) (hxw : Words xs) (w : World) :
    Calls Tryd.prog 63 #[.agg (roundsV rt st kt).toArray, .agg (h.list.map (Value.int .u32)).toArray, .agg (xs.map (Value.int .u32)).toArray, .bool turned] w fun e w' => e = .returned (.agg ((lineRun rt st kt turned h xs 80).list.map (Value.int .u32)).toArray) ∧ Keeps w w' := by
  have HT := Lib.hid T; have HXW := Lib.hid hxw; have HX := Lib.hid hx
  clear T hxw hx
  go_enter Tryd.func63, Tryd.ntmps63
  go_upto_region 1 with (fail)
  have h1 : Keeps w ((((w.alloc (.cells (roundsV rt st kt).toArray 125)).alloc (.cells (h.list.map (Value.int .u32)).toArray 121)).alloc (.cells (xs.map (Value.int .u32)).toArray 127)).alloc (.cells (List.replicate 5 (Value.int .u32 0)).toArray 121)) := keeps_alloc (keeps_alloc (keeps_alloc (keeps_alloc (Keeps.refl w) _) _) _) _
  obtain ⟨W0, hW0⟩ : ∃ W0, W0 = ((((w.alloc (.cells (roundsV rt st kt).toArray 125)).alloc (.cells (h.list.map (Value.int .u32)).toArray 121)).alloc (.cells (xs.map (Value.int .u32)).toArray 127)).alloc (.cells (List.replicate 5 (Value.int .u32 0)).toArray 121)) := ⟨_, rfl⟩
  have hr4 : Row W0 w.heap.size 0 (roundsV rt st kt) := by rw [hW0]; exact (((Row.new _ _ _ rfl).alloc _).alloc _).alloc _
  have hr5 : Row W0 (w.heap.size + 1) 0 (h.list.map (Value.int .u32)) := by
    have := ((Row.new (w := w.alloc (.cells (roundsV rt st kt).toArray 125)) (h.list.map (Value.int .u32)) _ 121 rfl).alloc (.cells (xs.map (Value.int .u32)).toArray 127)).alloc (.cells (List.replicate 5 (Value.int .u32 0)).toArray 121)
    rw [World.size_alloc] at this
    rw [hW0]; exact this
  have hr6 : Row W0 (w.heap.size + 1 + 1) 0 (xs.map (Value.int .u32)) := by
    have := (Row.new (w := (w.alloc (.cells (roundsV rt st kt).toArray 125)).alloc (.cells (h.list.map (Value.int .u32)).toArray 121)) (xs.map (Value.int .u32)) _ 127 rfl).alloc (.cells (List.replicate 5 (Value.int .u32 0)).toArray 121)
    rw [World.size_alloc, World.size_alloc] at this
    rw [hW0]; exact this
  have hr8 : Row W0 (w.heap.size + 1 + 1 + 1) 0 (List.replicate 5 (Value.int .u32 0)) := by
    have := Row.new (w := ((w.alloc (.cells (roundsV rt st kt).toArray 125)).alloc (.cells (h.list.map (Value.int .u32)).toArray 121)).alloc (.cells (xs.map (Value.int .u32)).toArray 127)) (List.replicate 5 (Value.int .u32 0)) _ 121 rfl
    rw [World.size_alloc, World.size_alloc, World.size_alloc] at this
    rw [hW0]; exact this
  rw [← hW0] at h1
  obtain ⟨b4, hb4⟩ : ∃ b, b = w.heap.size := ⟨_, rfl⟩
  obtain ⟨b5, hb5⟩ : ∃ b, b = w.heap.size + 1 := ⟨_, rfl⟩
  obtain ⟨b6, hb6⟩ : ∃ b, b = w.heap.size + 1 + 1 := ⟨_, rfl⟩
  obtain ⟨b8, hb8⟩ : ∃ b, b = w.heap.size + 1 + 1 + 1 := ⟨_, rfl⟩
  rw [← hb8, ← hb6, ← hb5, ← hb4]
  rw [← hb8] at hr8; rw [← hb6] at hr6; rw [← hb5] at hr5; rw [← hb4] at hr4
  refine wp_gen (fun W => Keeps w W ∧ Row W b4 0 (roundsV rt st kt) ∧ Row W b5 0 (h.list.map (Value.int .u32)) ∧ Row W b6 0 (xs.map (Value.int .u32)) ∧ Row W b8 0 (List.replicate 5 (Value.int .u32 0))) (by subst hW0; exact ⟨h1, hr4, hr5, hr6, hr8⟩) ?_
  clear h1 hr4 hr5 hr6 hr8 hW0 W0
  intro W0 ⟨h1, hr4, hr5, hr6, hr8⟩
  have HP := Lib.hid (show w.heap.size ≤ b4 ∧ w.heap.size ≤ b5 ∧ w.heap.size ≤ b8 ∧ b4 ≠ b5 ∧ b6 ≠ b5 ∧ b8 ≠ b5 by omega)
  clear hb4 hb5 hb6 hb8
  have HK := Lib.hid h1; have HR4 := Lib.hid hr4; have HR5 := Lib.hid hr5; have HR6 := Lib.hid hr6; have HR8 := Lib.hid hr8; have HO := Lib.hid ho
  clear h1 hr4 hr5 hr6 hr8 ho
  go_wp2
  go_loopw [13] (fun c wr => ∃ i : Nat, i ≤ 80 ∧ c = .int .i64 i ∧ Chg (· = b5) W0 wr ∧ Row wr b5 0 ((lineRun rt st kt turned h xs i).list.map (Value.int .u32))) (fun c _ => (80 - intOf c).toNat)
  case atStart => exact ⟨0, by omega, rfl, Chg.refl _ _, HR5.out⟩
  case round =>
    obtain ⟨i, hi, rfl, hch, hrt⟩ := hrel
    by_cases hlt : i < 80
    · obtain ⟨v0, v1, v2, v3, v4⟩ := S5.cells hrt
      obtain ⟨t1, t2, t3⟩ := row_tabs HT.out (HR4.out.chg hch HP.out.2.2.2.1) i hlt
      have hrn := HT.out.r i hlt
      have hsn := HT.out.s i hlt
      have hcx := (HR6.out.chg hch HP.out.2.2.2.2.1).int0 (rt.getD i 0) (by rw [HX.out]; exact hrn)
      have hok := lineRun_ok (rt := rt) (st := st) (kt := kt) (turned := turned) HO.out xs i
      have hxi := HXW.out.getD (rt.getD i 0)
      have hkw := HT.out.k.getD (i / 16)
      have hnx : lineRun rt st kt turned h xs (i + 1) = lineStep (lineRun rt st kt turned h xs i) (way turned i) (xs.getD (rt.getD i 0) 0) (kt.getD (i / 16) 0) (st.getD i 0) := rfl
      generalize lineRun rt st kt turned h xs i = r at *
      generalize rt.getD i 0 = rn at *
      generalize st.getD i 0 = sn at *
      generalize kt.getD (i / 16) 0 = kk at *
      generalize xs.getD rn 0 = xx at *
      obtain ⟨ra, rb, rc, rd, re⟩ := r
      have HV := Lib.hid hrt; have HNX := Lib.hid hnx; have HCH := Lib.hid hch
      clear hrt hnx hch
      obtain ⟨o0, o1, o2, o3, o4⟩ := hok
      simp only [Nat.zero_add] at v0 v1 v2 v3 v4 o0 o1 o2 o3 o4 t1 t2 t3
      have a0 := o0.1; have a1 := o0.2; have e0 := o4.1; have e1 := o4.2
      obtain ⟨x0, x1⟩ := hxi
      obtain ⟨k0, k1⟩ := hkw
      obtain ⟨sn0, sn1⟩ := hsn
      cases turned
      · go_wp2
        have hm0 : (0 : Int) ≤ (i : Int) / 16 := by omega
        have hm4 : (i : Int) / 16 ≤ 4 := by omega
        have hmm := fun w => mix_int ((i : Int) / 16) (by omega) (by omega) rb rc rd o1 o2 o3 w
        have HMM := Lib.hid hmm
        clear hmm
        go_quiet (first | (go_at_call 85; first | exact s1 (HMM.out _) | exact s2 (HMM.out _)) | (go_at_call 84; first | exact s1 (rotl_pos _ _ (by omega) (by omega) (by constructor <;> omega) _) | exact s2 (rotl_pos _ _ (by omega) (by omega) (by constructor <;> omega) _)))
        go_wp2
        refine wp_region_quiet_tail 11 (by kernel_rfl) (by kernel_rfl) ?_
        simp only [List.take_succ_cons, List.take_zero, List.drop_succ_cons, List.drop_zero]
        repeat (first | go_big_quiet_step (((go_at_call 84; first | exact s1 (rotl_pos _ _ (by omega) (by omega) (by assumption) _) | exact s2 (rotl_pos _ _ (by omega) (by omega) (by assumption) _) | exact q1 (rotl_pos _ _ (by omega) (by omega) (by assumption) _) | exact q2 (rotl_pos _ _ (by omega) (by omega) (by assumption) _)))) | quiet_step (((go_at_call 84; first | exact s1 (rotl_pos _ _ (by omega) (by omega) (by assumption) _) | exact s2 (rotl_pos _ _ (by omega) (by omega) (by assumption) _) | exact q1 (rotl_pos _ _ (by omega) (by omega) (by assumption) _) | exact q2 (rotl_pos _ _ (by omega) (by omega) (by assumption) _)))))
        refine wpQuiet_nil ?_
        intro _ hw'
        obtain ⟨nq, hw''⟩ := hw'
        subst hw''
        go_wp2_with (refine wpList_store_row rfl 121 (.tmp 5) (.tmp 63) rfl b5 0 rfl _ [_, _, _, _, _] rfl ((HV.out.drewN _).drewN _) rfl sz5 (by intro v hv; simp only [List.mem_cons, List.not_mem_nil, or_false] at hv; rcases hv with rfl | rfl | rfl | rfl | rfl <;> rfl) ?_; intro w3 hr3 hc3; have HR3 := Lib.hid hr3; have HC3 := Lib.hid hc3; clear hr3 hc3)
        go_roundw
        case rel =>
          refine ⟨i + 1, by omega, by go_num, (HCH.out.trans ((Qt.keeps (by repeat (first | exact Qt.refl _ | exact Qt.drewN _ _ | refine Qt.trans ?_ (Qt.drewN _ _)))).chg _)).trans HC3.out, ?_⟩
          rw [HNX.out]
          have e1 : ((4 : Int) - (i : Int) / 16).toNat = way true i := by show _ = 4 - i / 16; omega
          have hr := HR3.out
          first
            | exact hr
            | (rw [e1] at hr; exact hr)
        case measure => simp [intOf]; omega
      · go_wp2
        have hm0 : (0 : Int) ≤ (i : Int) / 16 := by omega
        have hm4 : (i : Int) / 16 ≤ 4 := by omega
        have hmm := fun w => mix_int (4 - (i : Int) / 16) (by omega) (by omega) rb rc rd o1 o2 o3 w
        have HMM := Lib.hid hmm
        clear hmm
        go_quiet (first | (go_at_call 85; first | exact s1 (HMM.out _) | exact s2 (HMM.out _)) | (go_at_call 84; first | exact s1 (rotl_pos _ _ (by omega) (by omega) (by constructor <;> omega) _) | exact s2 (rotl_pos _ _ (by omega) (by omega) (by constructor <;> omega) _)))
        go_wp2
        refine wp_region_quiet_tail 11 (by kernel_rfl) (by kernel_rfl) ?_
        simp only [List.take_succ_cons, List.take_zero, List.drop_succ_cons, List.drop_zero]
        repeat (first | go_big_quiet_step (((go_at_call 84; first | exact s1 (rotl_pos _ _ (by omega) (by omega) (by assumption) _) | exact s2 (rotl_pos _ _ (by omega) (by omega) (by assumption) _) | exact q1 (rotl_pos _ _ (by omega) (by omega) (by assumption) _) | exact q2 (rotl_pos _ _ (by omega) (by omega) (by assumption) _)))) | quiet_step (((go_at_call 84; first | exact s1 (rotl_pos _ _ (by omega) (by omega) (by assumption) _) | exact s2 (rotl_pos _ _ (by omega) (by omega) (by assumption) _) | exact q1 (rotl_pos _ _ (by omega) (by omega) (by assumption) _) | exact q2 (rotl_pos _ _ (by omega) (by omega) (by assumption) _)))))
        refine wpQuiet_nil ?_
        intro _ hw'
        obtain ⟨nq, hw''⟩ := hw'
        subst hw''
        go_wp2_with (refine wpList_store_row rfl 121 (.tmp 5) (.tmp 63) rfl b5 0 rfl _ [_, _, _, _, _] rfl ((HV.out.drewN _).drewN _) rfl sz5 (by intro v hv; simp only [List.mem_cons, List.not_mem_nil, or_false] at hv; rcases hv with rfl | rfl | rfl | rfl | rfl <;> rfl) ?_; intro w3 hr3 hc3; have HR3 := Lib.hid hr3; have HC3 := Lib.hid hc3; clear hr3 hc3)
        go_roundw
        case rel =>
          refine ⟨i + 1, by omega, by go_num, (HCH.out.trans ((Qt.keeps (by repeat (first | exact Qt.refl _ | exact Qt.drewN _ _ | refine Qt.trans ?_ (Qt.drewN _ _)))).chg _)).trans HC3.out, ?_⟩
          rw [HNX.out]
          have e1 : ((4 : Int) - (i : Int) / 16).toNat = way true i := by show _ = 4 - i / 16; omega
          have hr := HR3.out
          first
            | exact hr
            | (rw [e1] at hr; exact hr)
        case measure => simp [intOf]; omega
    · obtain rfl : i = 80 := by omega
      have hok := lineRun_ok (rt := rt) (st := st) (kt := kt) (turned := turned) HO.out xs 80
      generalize hse : lineRun rt st kt turned h xs 80 = r at *
      have HSE := Lib.hid hse
      clear hse
      have hr8 := HR8.out.chg hch HP.out.2.2.2.2.2
      have hkw := keeps_chg HK.out hch HP.out.2.1
      have Z5 : Hid ((Tryd.prog.info? 121).map (·.size) = some (r.list.map (Value.int .u32)).length) := Lib.hid sz5
      have HRT := Lib.hid hrt; have HR8b := Lib.hid hr8; have HKW := Lib.hid hkw
      clear hrt hr8 hkw hch hok
      go_wp2_with (first | (refine wpList_load_at rfl 121 (.tmp 5) rfl b5 0 rfl _ _ HRT.out Tryd.underlying121 rfl Z5.out ?_) | (refine wpList_store_row rfl 121 (.tmp 8) (.tmp 65) rfl b8 0 rfl _ _ rfl HR8b.out rfl Z5.out (int_oneCell _) ?_; intro W10 hr10 hc10; have HR10 := Lib.hid hr10; have HC10 := Lib.hid hc10; clear hr10 hc10))
      exact bodyPost_ret (v := .agg (r.list.map (Value.int .u32)).toArray) (results_cell_at (p := 8) (ty := 121) rfl _ _ b8 0 _ _ rfl HR10.out Tryd.underlying121 rfl Z5.out) rfl ⟨by rw [HSE.out], keeps_chg HKW.out HC10.out HP.out.2.2.1⟩
end Go.Proofs.YtlofddoojkeakaaDoor.Rip
