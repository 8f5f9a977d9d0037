/- block.DecodeHeader. | Rotations of 32 bits: what bits.RotateLeft32, hash.right and the reference's rot hand back. The count is between 1 and 31. | SHA-256 on lists of numbers, as the walks spell it. Plain: no program. -/
import Derived.Test.YtcodpdpeklammaaGreatDoorGC7
import Derived.Test.YtcodpdpeklammaaGreatDoorGC8
import Derived.Test.YtcodpdpeklammaaGreatDoorProg
import Derived.Test.YtcodpdpeklammaaGreatDoorGA0
import Derived.Test.YtcodpdpeklammaaGreatDoorGA1
namespace Go.Proofs.YtcodpdpeklammaaGreatDoor
set_option linter.unusedVariables false
set_option linter.unusedSimpArgs false
open Go Go.RowKit
variable {B : Nat}
/-- what DecodeHeader does -/
def HdDecP (l : List Int) (w : World) (r : Ending) (W : World) : Prop :=
  Keeps w W ∧ ∃ h e, r = .returned (.tuple #[.agg (hdCells h).toArray, .int .i64 e]) ∧ HdOk h ∧ ((l.length = 80 ∧ e = 0 ∧ h = headOf l) ∨ (l.length < 80 ∧ e = 4 ∧ h = hd0 0) ∨ (80 < l.length ∧ e = 3 ∧ h = hd0 0))
theorem built_hd0 : Tryz.prog.built 26 [] = some (hdCells (hd0 0)).toArray := by kernel_rfl
theorem hd0_ok : HdOk (hd0 0) := ⟨⟨by decide, by decide⟩, rfl, Z32_bytes, rfl, Z32_bytes, ⟨by decide, by decide⟩, ⟨by decide, by decide⟩, ⟨by decide, by decide⟩⟩
set_option maxRecDepth 100000 in
set_option maxHeartbeats 4000000 in
theorem dhead_any (v : Value) (l : List Int) (w : World) (hr : Rd w 1 v l.length (l.map (Value.int .u8))) (hn : l.length ≤ 140737488355328) (hb : Bytes l) :
    Calls Tryz.prog 8 #[v] w (HdDecP l w) := by
  have HR := Lib.hid hr; have HBY := Lib.hid hb
  obtain ⟨ad, cap, rfl⟩ : ∃ a c, v = .slice a l.length c := by obtain ⟨_, a, c, e, _⟩ := hr; exact ⟨a, c, e⟩
  clear hr hb
  go_enter Tryz.func8, Tryz.ntmps8
  go_upto_region 1 with (fail)
  refine wp_rows1r (fun W0 hk hr1 hsz => ?_)
  obtain ⟨p, hp⟩ : ∃ p, p = w.heap.size := ⟨_, rfl⟩
  rw [← hp] at hr1 hsz ⊢
  have HP := Lib.hid hp; have HSZ := Lib.hid hsz; have HK := Lib.hid hk
  have HR1 := Lib.hid (show Row W0 p 0 (hdCells (hd0 0)) from hr1)
  clear hp hsz hk hr1
  go_upto_region 3 with (first
    | (go_at_call 27; refine (rdr_open_any _ l W0 (HR.out.keeps HK.out) hn HBY.out).mono ?_; rintro r W1 ⟨g, v1, rfl, hg1, hg2, hra, hk1⟩; have HRA := Lib.hid hra; have HK1 := Lib.hid hk1; have HG := Lib.hid (And.intro hg1 hg2); clear hra hk1 hg1 hg2)
    | (go_at_call 28; refine (header_any (B := W1.heap.size) g v1 l W1 HRA.out (Nat.le_refl _) HG.out.2).mono ?_; intro r W2 hpst; obtain ⟨hc2, h, v2, e2, l2, hd, rfl, hok, hra2, hrf, heq⟩ := hpst; have HC2 := Lib.hid hc2; have HOK := Lib.hid hok; have HRA2 := Lib.hid hra2; have HRF := Lib.hid hrf; have HEQ := Lib.hid heq; clear hc2 hok hra2 hrf heq)
    | ((with_reducible refine gate_store 26 (.tmp 5) (.tmp 10) ?_); refine wpList_store_row rfl 26 (.tmp 5) (.tmp 10) rfl W2.heap.size 0 rfl (hdCells (hd0 0)) (hdCells h) rfl (Row.new _ _ _ rfl) (by rw [hdCells_len HOK.out.prevLen HOK.out.merkleLen, hdCells_len rfl rfl]) (sz_hd HOK.out.prevLen HOK.out.merkleLen) (hdCells_one _) ?_; intro W3 hr3 hc3; have HR3 := Lib.hid hr3; have HC3 := Lib.hid hc3; clear hr3 hc3))
  have hg := HG.out
  have hsz := HSZ.out
  have hk1s := HK1.out.size
  have hc2s := HC2.out.size
  have hka : Keeps W2 (W2.alloc (.cells (hdCells (hd0 0)).toArray 26)) := keeps_alloc (Keeps.refl _) _
  have hc3 : Chg (· = W2.heap.size) _ W3 := HC3.out
  have hrp : Row W3 p 0 (hdCells (hd0 0)) := (((HR1.out.keeps HK1.out).chg HC2.out (by omega)).keeps hka).chg hc3 (by omega)
  have hra3 : RdAt W1.heap.size W3 g v2 e2 l2 := (HRA2.out.keeps hka).far hc3 (fun k e => by have h : k = W2.heap.size := e; omega) (by omega)
  have hkw : Keeps w W3 := keeps_chg (keeps_alloc (keeps_chg (HK.out.trans HK1.out) HC2.out (by have := HP.out; omega)) _) hc3 (by have := HP.out; omega)
  have HRP := Lib.hid hrp; have HRA3 := Lib.hid hra3; have HKW := Lib.hid hkw
  clear hg hsz hk1s hc2s hka hc3 hrp hra3 hkw HC3 HC2 HRA HR1 HRA2 HK1
  have hres : (l.length = 80 ∧ closeE e2 l2 = 0 ∧ h = headOf l) ∨ (l.length < 80 ∧ closeE e2 l2 = 4) ∨ (80 < l.length ∧ closeE e2 l2 = 3) := by
    by_cases hl : l.length < 80
    · rcases HRF.out with ⟨h, _⟩ | ⟨_, _, h⟩ | ⟨_, _, h⟩
      · exact absurd rfl h
      · rw [rdHead_short hl] at h; cases h
      · rw [rdHead_short hl] at h; cases h
        exact .inr (.inl ⟨hl, rfl⟩)
    · have h0 := rdHead_of (l := l) (by omega)
      rcases HRF.out with ⟨h, _⟩ | ⟨_, he, h⟩ | ⟨_, _, h⟩
      · exact absurd rfl h
      · rw [h0] at h
        injection h with h
        obtain ⟨rfl, rfl⟩ := Prod.mk.inj h
        subst he
        by_cases h8 : l.length = 80
        · refine .inl ⟨h8, ?_, HEQ.out rfl⟩
          unfold closeE; rw [if_neg (by simp; omega)]
        · refine .inr (.inr ⟨by omega, ?_⟩)
          unfold closeE; rw [if_pos ⟨rfl, by simp; omega⟩]
      · rw [h0] at h; cases h
  have HRES := Lib.hid hres
  clear hres HRF HEQ
  go_upto_region 4 with (go_at_call 29; refine (rdr_close_any g v2 e2 l2 W3 HRA3.out).mono ?_; rintro r W4 ⟨rfl, rfl⟩)
  generalize closeE e2 l2 = c at *
  generalize W2.heap.size = q at *
  by_cases hc : c = 0
  · subst hc
    go_wp2_with (first
      | ((with_reducible refine gate_load 26 (.tmp 5) ?_); refine wpList_load_at rfl 26 (.tmp 5) rfl q 0 rfl _ _ HR3.out Tryz.underlying26 rfl (sz_hd HOK.out.prevLen HOK.out.merkleLen) ?_)
      | ((with_reducible refine gate_store 26 (.tmp 2) (.tmp 17) ?_); refine wpList_store_row rfl 26 (.tmp 2) (.tmp 17) rfl p 0 rfl (hdCells (hd0 0)) (hdCells h) rfl HRP.out (by rw [hdCells_len HOK.out.prevLen HOK.out.merkleLen, hdCells_len rfl rfl]) (sz_hd HOK.out.prevLen HOK.out.merkleLen) (hdCells_one _) ?_; intro W5 hr5 hc5; have HR5 := Lib.hid hr5; have HC5 := Lib.hid hc5; clear hr5 hc5))
    refine bodyPost_ret (results_cell_tmp (t := 3) (p := 2) rfl _ _ p 0 _ _ _ rfl rfl HR5.out Tryz.underlying26 rfl (sz_hd HOK.out.prevLen HOK.out.merkleLen)) rfl ?_
    refine ⟨keeps_chg HKW.out HC5.out (by have := HP.out; omega), h, 0, rfl, HOK.out, ?_⟩
    rcases HRES.out with ⟨a, _, b⟩ | ⟨_, b⟩ | ⟨_, b⟩
    · exact .inl ⟨a, rfl, b⟩
    · cases b
    · cases b
  · have HC := Lib.hid hc
    go_wp2_with (first
      | ((with_reducible refine gate_build 26 _ ?_); refine wpList_build_at rfl 26 _ rfl [] ?_ _ built_hd0 ?_; focus rfl)
      | ((with_reducible refine gate_store 26 (.tmp 2) (.tmp 15) ?_); refine wpList_store_row rfl 26 (.tmp 2) (.tmp 15) rfl p 0 rfl (hdCells (hd0 0)) (hdCells (hd0 0)) rfl HRP.out rfl (sz_hd rfl rfl) (hdCells_one _) ?_; intro W5 hr5 hc5; have HR5 := Lib.hid hr5; have HC5 := Lib.hid hc5; clear hr5 hc5))
    refine bodyPost_ret (results_cell_tmp (t := 3) (p := 2) rfl _ _ p 0 _ _ _ rfl rfl HR5.out Tryz.underlying26 rfl (sz_hd rfl rfl)) rfl ?_
    refine ⟨keeps_chg HKW.out HC5.out (by have := HP.out; omega), hd0 0, c, rfl, hd0_ok, ?_⟩
    rcases HRES.out with ⟨_, b, _⟩ | ⟨a, b⟩ | ⟨a, b⟩
    · exact absurd b HC.out
    · exact .inr (.inl ⟨a, b, rfl⟩)
    · exact .inr (.inr ⟨a, b, rfl⟩)
end Go.Proofs.YtcodpdpeklammaaGreatDoor
namespace Go.Proofs.YtcodpdpeklammaaGreatDoor
set_option linter.unusedVariables false
set_option linter.unusedSimpArgs false
open Go Go.RowKit

/-- a word of 32 bits -/
def W32 (x : Int) : Prop := 0 ≤ x ∧ x < 4294967296
/-- rotated to the right, as the walk spells it -/
def ror (x : Int) (n : Nat) : Int := bits .or .u32 (x * 2 ^ (32 - n) % 4294967296) (x / 2 ^ n)
theorem bits_u32_range (op : BinOp) (a b : Int) : W32 (bits op .u32 a b) := by
  unfold bits
  split <;> simp only [IntKind.wrap_u32'] <;> exact ⟨by omega, by omega⟩
theorem neg_and (n : Nat) (h1 : 1 ≤ n) (h2 : n ≤ 31) : bits .and .u64 (IntKind.u64.wrap (-(n : Int))) 31 = ((32 - n : Nat) : Int) := by
  have h := (by decide +kernel : ∀ m : Fin 32, 1 ≤ m.val → bits .and .u64 (IntKind.u64.wrap (-(m.val : Int))) 31 = ((32 - m.val : Nat) : Int)) ⟨n, by omega⟩ h1
  exact h

theorem rotl_any (x : Int) (n : Nat) (h1 : 1 ≤ n) (h2 : n ≤ 31) (hx : W32 x) (w : World) : Calls Tryz.prog 124 #[.int .u32 x, .int .i64 (-(n : Int))] w fun e w' => e = .returned (.int .u32 (ror x n)) ∧ w = w' := by
  obtain ⟨h3, h4⟩ := hx
  have hb := neg_and n h1 h2
  generalize hm : bits .and .u64 (IntKind.u64.wrap (-(n : Int))) 31 = m at *
  subst hb
  have e1 : 32 - (32 - n) = n := by omega
  have HM := Lib.hid e1; clear e1
  have hm1 : 1 ≤ 32 - n := by omega
  have hm2 : 32 - n ≤ 31 := by omega
  have hr : ror x n = bits .or .u32 (x * 2 ^ (32 - n) % 4294967296) (x / 2 ^ (32 - (32 - n))) := by rw [HM.out]; rfl
  have HR := Lib.hid hr; clear hr
  generalize 32 - n = k at *
  go_enter Tryz.func124, Tryz.ntmps124
  go_wp2
  go_ret
  exact ⟨ret_int HR.out.symm, rfl⟩

theorem right_any (x n : Int) (h1 : 1 ≤ n) (h2 : n ≤ 31) (hx : W32 x) (w : World) : Calls Tryz.prog 117 #[.int .u32 x, .int .i64 n] w fun e w' => e = .returned (.int .u32 (ror x n.toNat)) ∧ w = w' := by
  obtain ⟨n, rfl⟩ := Int.eq_ofNat_of_zero_le (show 0 ≤ n by omega)
  go_enter Tryz.func117, Tryz.ntmps117
  go_wp2_with (go_at_call 124; refine (rotl_any _ _ (by omega) (by omega) hx _).mono ?_; rintro e w' ⟨rfl, rfl⟩)
  go_ret
  exact ⟨rfl, rfl⟩

/-- the reference's, to the left by m: to the right by 32 - m -/
theorem rot_any (x m : Int) (h1 : 1 ≤ m) (h2 : m ≤ 31) (hx : W32 x) (w : World) : Calls Tryz.prog 95 #[.int .u32 x, .int .i64 m] w fun e w' => e = .returned (.int .u32 (ror x (32 - m.toNat))) ∧ w = w' := by
  obtain ⟨h3, h4⟩ := hx
  obtain ⟨m, rfl⟩ := Int.eq_ofNat_of_zero_le (show 0 ≤ m by omega)
  have hr : ror x (32 - m) = bits .or .u32 (x * 2 ^ m % 4294967296) (x / 2 ^ (32 - m)) := by
    unfold ror
    rw [show 32 - (32 - m) = m by omega]
  have HR := Lib.hid hr; clear hr
  go_enter Tryz.func95, Tryz.ntmps95
  go_wp2
  go_ret
  exact ⟨ret_int HR.out.symm, rfl⟩
def Words (l : List Int) : Prop := ∀ x ∈ l, W32 x
theorem Words.getD {l : List Int} (h : Words l) (j : Nat) : W32 (l.getD j 0) := by
  by_cases hj : j < l.length
  · have : l.getD j 0 = l[j] := by simp [hj]
    rw [this]; exact h _ (List.getElem_mem hj)
  · have : l.getD j 0 = 0 := by simp [List.getD, List.getElem?_eq_none (by omega : l.length ≤ j)]
    rw [this]; exact ⟨by omega, by omega⟩
theorem mod_range (x : Int) : W32 (x % 4294967296) := ⟨by omega, by omega⟩

/-- four bytes, the greatest first -/
def word (l : List Int) (i : Nat) : Int := bits .or .u32 (bits .or .u32 (bits .or .u32 (l.getD (4 * i) 0 * 16777216) (l.getD (4 * i + 1) 0 * 65536)) (l.getD (4 * i + 2) 0 * 256)) (l.getD (4 * i + 3) 0)
def ssig0 (x : Int) : Int := bits .xor .u32 (bits .xor .u32 (ror x 7) (ror x 18)) (x / 8)
def ssig1 (x : Int) : Int := bits .xor .u32 (bits .xor .u32 (ror x 17) (ror x 19)) (x / 1024)
def snext (ws : List Int) (n : Nat) : Int := (ws.getD (n - 16) 0 + ws.getD (n - 7) 0 + ssig0 (ws.getD (n - 15) 0) + ssig1 (ws.getD (n - 2) 0)) % 4294967296
/-- the words of the steps -/
def sched (l : List Int) : Nat → List Int
  | 0 => []
  | n + 1 => sched l n ++ [if n < 16 then word l n else snext (sched l n) n]
theorem sched_length (l : List Int) (n : Nat) : (sched l n).length = n := by
  induction n with
  | zero => rfl
  | succ n ih => simp [sched, ih]
theorem sched_words (l : List Int) (n : Nat) : Words (sched l n) := by
  induction n with
  | zero => intro x hx; simp [sched] at hx
  | succ n ih =>
    intro x hx
    simp only [sched, List.mem_append, List.mem_singleton] at hx
    rcases hx with hx | rfl
    · exact ih x hx
    · split
      · exact bits_u32_range _ _ _
      · exact mod_range _
/-- the words so far, and noughts -/
def sbuf (l : List Int) (n : Nat) : List Int := sched l n ++ List.replicate (64 - n) 0
theorem sbuf_length (l : List Int) (n : Nat) (h : n ≤ 64) : (sbuf l n).length = 64 := by simp [sbuf, sched_length]; omega
theorem sbuf_getD (l : List Int) (n j : Nat) (h : j < n) : (sbuf l n).getD j 0 = (sched l n).getD j 0 := by
  simp [sbuf, List.getD, List.getElem?_append_left, sched_length, h]
theorem sbuf_set (l : List Int) (n : Nat) (h : n < 64) (x : Int) (hx : x = if n < 16 then word l n else snext (sched l n) n) : (sbuf l n).set n x = sbuf l (n + 1) := by
  subst hx
  unfold sbuf
  rw [List.set_append_right _ _ (by rw [sched_length]; omega)]
  simp only [sched_length, Nat.sub_self]
  rw [show 64 - n = (64 - (n + 1)) + 1 by omega, List.replicate_succ, List.set_cons_zero]
  rw [sched]
  simp
theorem sbuf_full (l : List Int) : sbuf l 64 = sched l 64 := by simp [sbuf]

/-! the rounds -/
def bsig1 (e : Int) : Int := bits .xor .u32 (bits .xor .u32 (ror e 6) (ror e 11)) (ror e 25)
def bsig0 (a : Int) : Int := bits .xor .u32 (bits .xor .u32 (ror a 2) (ror a 13)) (ror a 22)
def chf (e f g : Int) : Int := bits .xor .u32 (bits .and .u32 e f) (bits .and .u32 (bits .xor .u32 IntKind.u32.max e) g)
def majf (a b c : Int) : Int := bits .xor .u32 (bits .xor .u32 (bits .and .u32 a b) (bits .and .u32 a c)) (bits .and .u32 b c)
structure St where
  (a b c d e f g h : Int)
def St.list (s : St) : List Int := [s.a, s.b, s.c, s.d, s.e, s.f, s.g, s.h]
def St.ok (s : St) : Prop := W32 s.a ∧ W32 s.b ∧ W32 s.c ∧ W32 s.d ∧ W32 s.e ∧ W32 s.f ∧ W32 s.g ∧ W32 s.h
def tone (s : St) (k x : Int) : Int := (s.h + bsig1 s.e + chf s.e s.f s.g + k + x) % 4294967296
def ttwo (s : St) : Int := (bsig0 s.a + majf s.a s.b s.c) % 4294967296
def St.round (s : St) (k x : Int) : St := ⟨(tone s k x + ttwo s) % 4294967296, s.a, s.b, s.c, (s.d + tone s k x) % 4294967296, s.e, s.f, s.g⟩
def St.plus (s t : St) : St := ⟨(s.a + t.a) % 4294967296, (s.b + t.b) % 4294967296, (s.c + t.c) % 4294967296, (s.d + t.d) % 4294967296, (s.e + t.e) % 4294967296, (s.f + t.f) % 4294967296, (s.g + t.g) % 4294967296, (s.h + t.h) % 4294967296⟩
theorem St.round_ok {s : St} (h : s.ok) (k x : Int) : (s.round k x).ok := ⟨mod_range _, h.1, h.2.1, h.2.2.1, mod_range _, h.2.2.2.2.1, h.2.2.2.2.2.1, h.2.2.2.2.2.2.1⟩
theorem St.plus_ok (s t : St) : (s.plus t).ok := ⟨mod_range _, mod_range _, mod_range _, mod_range _, mod_range _, mod_range _, mod_range _, mod_range _⟩
def k256 : List Int := [0x428a2f98, 0x71374491, 0xb5c0fbcf, 0xe9b5dba5, 0x3956c25b, 0x59f111f1, 0x923f82a4, 0xab1c5ed5, 0xd807aa98, 0x12835b01, 0x243185be, 0x550c7dc3, 0x72be5d74, 0x80deb1fe, 0x9bdc06a7, 0xc19bf174, 0xe49b69c1, 0xefbe4786, 0x0fc19dc6, 0x240ca1cc, 0x2de92c6f, 0x4a7484aa, 0x5cb0a9dc, 0x76f988da, 0x983e5152, 0xa831c66d, 0xb00327c8, 0xbf597fc7, 0xc6e00bf3, 0xd5a79147, 0x06ca6351, 0x14292967, 0x27b70a85, 0x2e1b2138, 0x4d2c6dfc, 0x53380d13, 0x650a7354, 0x766a0abb, 0x81c2c92e, 0x92722c85, 0xa2bfe8a1, 0xa81a664b, 0xc24b8b70, 0xc76c51a3, 0xd192e819, 0xd6990624, 0xf40e3585, 0x106aa070, 0x19a4c116, 0x1e376c08, 0x2748774c, 0x34b0bcb5, 0x391c0cb3, 0x4ed8aa4a, 0x5b9cca4f, 0x682e6ff3, 0x748f82ee, 0x78a5636f, 0x84c87814, 0x8cc70208, 0x90befffa, 0xa4506ceb, 0xbef9a3f7, 0xc67178f2]
def rounds (s : St) (ws : List Int) : Nat → St
  | 0 => s
  | n + 1 => (rounds s ws n).round (k256.getD n 0) (ws.getD n 0)
theorem rounds_ok {s : St} (h : s.ok) (ws : List Int) (n : Nat) : (rounds s ws n).ok := by
  induction n with
  | zero => exact h
  | succ n ih => exact St.round_ok ih _ _
/-- one block of 64 bytes -/
def compress (s : St) (l : List Int) : St := s.plus (rounds s (sched l 64) 64)
def iv256 : St := ⟨0x6a09e667, 0xbb67ae85, 0x3c6ef372, 0xa54ff53a, 0x510e527f, 0x9b05688c, 0x1f83d9ab, 0x5be0cd19⟩
theorem iv256_ok : iv256.ok := by unfold St.ok iv256 W32; decide
theorem k256_words : Words k256 := by unfold Words W32; decide
theorem k256_length : k256.length = 64 := by decide
/-- n blocks, from a state on -/
def run256 (s : St) (l : List Int) : Nat → St
  | 0 => s
  | n + 1 => compress (run256 s l n) ((l.drop (64 * n)).take 64)
theorem run256_ok {s : St} (h : s.ok) (l : List Int) (n : Nat) : (run256 s l n).ok := by
  cases n with
  | zero => exact h
  | succ n => exact St.plus_ok _ _
theorem run256_add (s : St) (l : List Int) (q i : Nat) : run256 s l (q + i) = run256 (run256 s l q) (l.drop (64 * q)) i := by
  induction i with
  | zero => rfl
  | succ i ih =>
    rw [← Nat.add_assoc, run256, run256, ih, List.drop_drop, show 64 * (q + i) = 64 * q + 64 * i by omega]
theorem run256_append (s : St) (l r : List Int) (q : Nat) (h : 64 * q ≤ l.length) : run256 s (l ++ r) q = run256 s l q := by
  induction q with
  | zero => rfl
  | succ q ih =>
    rw [run256, run256, ih (by omega), List.drop_append_of_le_length (by omega), List.take_append_of_le_length (by simp; omega)]
/-- blocks taken behind those of before are those of all -/
theorem run256_more (s : St) (l r : List Int) (i : Nat) :
    run256 (run256 s l (l.length / 64)) (l.drop (64 * (l.length / 64)) ++ r) i = run256 s (l ++ r) (l.length / 64 + i) := by
  rw [run256_add, run256_append s l r (l.length / 64) (by omega), List.drop_append_of_le_length (by omega)]
end Go.Proofs.YtcodpdpeklammaaGreatDoor
