/- block.EncodeHeader: a head as bytes. | Size, Weight, Virtual; how many bytes a cut transaction has. | Rotations of 32 bits: what bits.RotateLeft32, hash.right and the reference's rot hand back. The count is between 1 and 31. | SHA-256 on lists of numbers, as the walks spell it. Plain: no program. -/
import Derived.Test.YtclhjlkgmeofcaaDoorGA3
import Derived.Test.YtclhjlkgmeofcaaDoorGC2
import Derived.Test.YtclhjlkgmeofcaaDoorGB5
import Derived.Test.YtclhjlkgmeofcaaDoorGA9
import Derived.Test.YtclhjlkgmeofcaaDoorProg
import Derived.Test.YtclhjlkgmeofcaaDoorGA0
import Derived.Test.YtclhjlkgmeofcaaDoorGA1
namespace Go.Proofs.YtclhjlkgmeofcaaDoor
set_option linter.unusedVariables false
set_option linter.unusedSimpArgs false
open Go Go.RowKit

/-- the cells of a head -/
def headCells (ver : Int) (prev merkle : List Int) (t b n : Int) : List Value :=
  Value.int .i32 ver :: (prev.map (Value.int .u8) ++ (merkle.map (Value.int .u8) ++ [.int .u32 t, .int .u32 b, .int .u32 n]))
theorem headCells_ver (ver : Int) (prev merkle : List Int) (t b n : Int) : (headCells ver prev merkle t b n)[0]? = some (.int .i32 ver) := rfl
theorem headCells_at (ver : Int) (prev merkle : List Int) (t b n : Int) (hp : prev.length = 32) (hm : merkle.length = 32) :
    (headCells ver prev merkle t b n)[65]? = some (.int .u32 t) ∧ (headCells ver prev merkle t b n)[66]? = some (.int .u32 b) ∧ (headCells ver prev merkle t b n)[67]? = some (.int .u32 n) := by
  unfold headCells
  simp only [List.getElem?_cons_succ]
  refine ⟨?_, ?_, ?_⟩ <;> rw [List.getElem?_append_right (by simp [hp]), List.getElem?_append_right (by simp [hp, hm])] <;> simp [hp, hm]
theorem headCells_prev (ver : Int) (prev merkle : List Int) (t b n : Int) (hp : prev.length = 32) : ((headCells ver prev merkle t b n).drop 1).take 32 = prev.map (Value.int .u8) := by
  unfold headCells
  simp [hp]
theorem headCells_merkle (ver : Int) (prev merkle : List Int) (t b n : Int) (hp : prev.length = 32) (hm : merkle.length = 32) : ((headCells ver prev merkle t b n).drop 33).take 32 = merkle.map (Value.int .u8) := by
  unfold headCells
  rw [List.drop_succ_cons, List.drop_append_of_le_length (by simp [hp]), List.drop_eq_nil_of_le (by simp [hp])]
  simp [hm]
/-- a head's bytes -/
def headB (ver : Int) (prev merkle : List Int) (t b n : Int) : List Int := leB (ver % 4294967296) 4 ++ prev ++ merkle ++ leB t 4 ++ leB b 4 ++ leB n 4
def nm_U32 (x : Int) : Prop := 0 ≤ x ∧ x < 4294967296
theorem headB_eq (ver : Int) (prev merkle : List Int) (t b n : Int) : headB ver prev merkle t b n = [] ++ leB (ver % 4294967296) 4 ++ prev ++ merkle ++ leB t 4 ++ leB b 4 ++ leB n 4 := rfl
theorem Own.from' {w W W' : World} {v : Value} {n : Nat} {l : List Int} (h : Own W W' v n l) (hk : Keeps w W) : Own w W' v n l := ⟨hk.trans h.keeps, h.buf, fun g hg => Nat.le_trans hk.size (h.new g hg)⟩
theorem Row.rd {w : World} {g off : Nat} {vs : List Value} (h : Row w g off vs) (i n : Nat) (xs : List Value) (e : (vs.drop i).take n = xs) (hl : xs.length = n) (hn : 0 < n) (hb : n ≤ 100) : Rd w 1 (.slice (some ⟨g, off + i, none⟩) n n) n xs := by
  have h2 := (h.drop i).take n
  rw [e] at h2
  exact Rd.of_row h2 (by omega) (h2.lt (by intro e; rw [e] at hl; simp at hl; omega)) (Nat.le_refl _) (by unfold maxLen; omega)
set_option maxRecDepth 100000 in
set_option maxHeartbeats 4000000 in
theorem encodeHeader_any (ver : Int) (prev merkle : List Int) (t b n : Int) (hp : prev.length = 32) (hm : merkle.length = 32) (ht : nm_U32 t) (hb : nm_U32 b) (hn : nm_U32 n) (w : World) :
    Calls Tryd.prog 26 #[.agg (headCells ver prev merkle t b n).toArray] w fun e w' => ∃ v, e = .returned v ∧ Own w w' v 80 (headB ver prev merkle t b n) := by
  have hc0 := headCells_ver ver prev merkle t b n
  obtain ⟨hc1, hc2, hc3⟩ := headCells_at ver prev merkle t b n hp hm
  have hd1 := headCells_prev ver prev merkle t b n hp
  have hd2 := headCells_merkle ver prev merkle t b n hp hm
  generalize headCells ver prev merkle t b n = H at *
  have HC0 := Lib.hid hc0; have HC1 := Lib.hid hc1; have HC2 := Lib.hid hc2; have HC3 := Lib.hid hc3; have HD1 := Lib.hid hd1; have HD2 := Lib.hid hd2
  clear hc0 hc1 hc2 hc3 hd1 hd2
  have hver : IntKind.u32.wrap ver = ver % 4294967296 := by rw [IntKind.wrap_u32]
  have hv0 : 0 ≤ ver % 4294967296 := by omega
  have hv1 : ver % 4294967296 < 4294967296 := by omega
  have HBE := Lib.hid (headB_eq ver prev merkle t b n)
  generalize headB ver prev merkle t b n = HB at *
  go_enter Tryd.func26, Tryd.ntmps26
  go_upto_region 1 with (fail)
  refine nm_wp_rows1 (fun W hk hr hs => ?_)
  obtain ⟨p, hp'⟩ : ∃ p, p = w.heap.size := ⟨_, rfl⟩
  rw [← hp'] at hr hs ⊢
  have HR := Lib.hid (show Row W p 0 H from hr); have HK := Lib.hid hk; have HS := Lib.hid hs
  clear hr hk hs hp'
  go_upto_region 2 with (fail)
  have hw0 : WrAt W (W.alloc (.cells #[.slice none 0 0] 119)) W.heap.size (.slice none 0 0) 0 [] := ⟨(Own.nil W).step (nm_keeps_alloc (Keeps.refl _) _), Row.new _ _ _ rfl, Nat.le_refl _, by simp [Value.ownBlock]⟩
  obtain ⟨g, hg⟩ : ∃ g, g = W.heap.size := ⟨_, rfl⟩
  rw [← hg] at hw0 ⊢
  generalize W.alloc (.cells #[.slice none 0 0] 119) = W0 at *
  have HW0 := Lib.hid hw0
  have r0 := (HR.out.keeps hw0.own.keeps 0 _ HC0.out).1
  clear hw0 hg
  go_upto_region 3 with (go_at_call 64; refine (wu32_any W g _ _ _ (ver % 4294967296) hv0 hv1 (by omega) _ HW0.out).mono ?_; rintro e W1 ⟨rfl, v1, hv1', hg1⟩; have HW1 := Lib.hid hv1'; clear hv1' hg1)
  have rd1 : Rd W1 1 (.slice (some ⟨p, 1, none⟩) 32 32) 32 (prev.map (Value.int .u8)) := by
    have := (HR.out.keeps HW1.out.own.keeps).rd 1 32 _ HD1.out (by simp [hp]) (by omega) (by omega)
    rwa [Nat.zero_add] at this
  have RD1 := Lib.hid rd1
  clear rd1
  go_upto_region 4 with (go_at_call 65; refine (wraw_any W g _ _ _ _ 32 prev (by omega) _ HW1.out RD1.out).mono ?_; rintro e W2 ⟨rfl, v2, hv2', hg2⟩; have HW2 := Lib.hid hv2'; clear hv2' hg2)
  have rd2 : Rd W2 1 (.slice (some ⟨p, 33, none⟩) 32 32) 32 (merkle.map (Value.int .u8)) := by
    have := (HR.out.keeps HW2.out.own.keeps).rd 33 32 _ HD2.out (by simp [hm]) (by omega) (by omega)
    rwa [Nat.zero_add] at this
  have RD2 := Lib.hid rd2
  clear rd2
  go_upto_region 5 with (go_at_call 65; refine (wraw_any W g _ _ _ _ 32 merkle (by omega) _ HW2.out RD2.out).mono ?_; rintro e W3 ⟨rfl, v3, hv3', hg3⟩; have HW3 := Lib.hid hv3'; clear hv3' hg3)
  have r3 := (HR.out.keeps HW3.out.own.keeps 65 _ HC1.out).1
  rw [Nat.zero_add] at r3
  go_upto_region 6 with (go_at_call 64; refine (wu32_any W g _ _ _ t ht.1 ht.2 (by omega) _ HW3.out).mono ?_; rintro e W4 ⟨rfl, v4, hv4', hg4⟩; have HW4 := Lib.hid hv4'; clear hv4' hg4)
  have r4 := (HR.out.keeps HW4.out.own.keeps 66 _ HC2.out).1
  rw [Nat.zero_add] at r4
  go_upto_region 7 with (go_at_call 64; refine (wu32_any W g _ _ _ b hb.1 hb.2 (by omega) _ HW4.out).mono ?_; rintro e W5 ⟨rfl, v5, hv5', hg5⟩; have HW5 := Lib.hid hv5'; clear hv5' hg5)
  have r5 := (HR.out.keeps HW5.out.own.keeps 67 _ HC3.out).1
  rw [Nat.zero_add] at r5
  go_upto_region 8 with (go_at_call 64; refine (wu32_any W g _ _ _ n hn.1 hn.2 (by omega) _ HW5.out).mono ?_; rintro e W6 ⟨rfl, v6, hv6', hg6⟩; have HW6 := Lib.hid hv6'; clear hv6' hg6)
  go_wp2_with (go_at_call 66; refine (wout_any W g _ _ _ (by omega) _ HW6.out).mono ?_; rintro e W7 ⟨v7, rfl, hv7⟩; have HW7 := Lib.hid hv7; clear hv7)
  go_ret
  refine ⟨_, rfl, ?_⟩
  have hfin := HW7.out.from' (HK.out.trans HW6.out.own.keeps)
  rw [HBE.out]
  exact hfin
end Go.Proofs.YtclhjlkgmeofcaaDoor
namespace Go.Proofs.YtclhjlkgmeofcaaDoor
set_option linter.unusedVariables false
set_option linter.unusedSimpArgs false
open Go Go.RowKit

theorem fits_few (d : TxD) (h : d.ins.all (fun i => i.hash.length == 32) = true) : Fits (fewD 4 200 d) := by
  have ht : ∀ l : List Int, l.length ≤ 600 → (textB l).length ≤ 609 := fun l hl => by
    have := sizeB_len (l.length : Int)
    unfold textB; rw [List.length_append]; omega
  have h1 : ((fewD 4 200 d).ins.flatMap inB).length ≤ 10 * 649 := by
    refine Nat.le_trans (flat_le inB 649 _ (fun x hx => ?_)) (Nat.mul_le_mul_right _ (by simp [fewD]; omega))
    obtain ⟨y, hy, rfl⟩ := List.mem_map.1 hx
    have h32 : y.hash.length = 32 := by have := List.all_eq_true.1 h y (List.mem_of_mem_take hy); simpa using this
    have := ht (y.script.take 200) (by simp; omega)
    unfold inB trimIn
    simp only [List.length_append, leB_length]
    omega
  have h2 : ((fewD 4 200 d).outs.flatMap outB).length ≤ 10 * 617 := by
    refine Nat.le_trans (flat_le outB 617 _ (fun x hx => ?_)) (Nat.mul_le_mul_right _ (by simp [fewD]; omega))
    obtain ⟨y, hy, rfl⟩ := List.mem_map.1 hx
    have := ht (y.script.take 200) (by simp; omega)
    unfold outB trimOut
    simp only [List.length_append, leB_length]
    omega
  have h3 : ((fewD 4 200 d).ins.flatMap witB).length ≤ 10 * 6099 := by
    refine Nat.le_trans (flat_le witB 6099 _ (fun x hx => ?_)) (Nat.mul_le_mul_right _ (by simp [fewD]; omega))
    obtain ⟨y, hy, rfl⟩ := List.mem_map.1 hx
    have hs := sizeB_len ((trimIn 4 200 y).wit.length : Int)
    have hw : ((trimIn 4 200 y).wit.flatMap textB).length ≤ 10 * 609 := by
      refine Nat.le_trans (flat_le textB 609 _ (fun z hz => ?_)) (Nat.mul_le_mul_right _ (by simp [trimIn]; omega))
      obtain ⟨q, hq, rfl⟩ := List.mem_map.1 hz
      exact ht _ (by simp; omega)
    unfold witB
    rw [List.length_append]
    omega
  have s1 := sizeB_len ((fewD 4 200 d).ins.length : Int)
  have s2 := sizeB_len ((fewD 4 200 d).outs.length : Int)
  unfold Fits insB outsB
  rw [List.length_append, List.length_append]
  omega
theorem enc_le (d : TxD) (wit : Bool) (h : Fits d) : (encB d wit).length ≤ 1000000000010 := by
  unfold Fits at h
  unfold encB
  simp only [List.length_append, leB_length]
  by_cases hc : (wit && witnessedD d) = true
  · rw [if_pos hc, if_pos hc]; simp only [List.length_cons, List.length_nil]; omega
  · rw [if_neg hc, if_neg hc]; simp only [List.length_nil]; omega
end Go.Proofs.YtclhjlkgmeofcaaDoor
namespace Go.Proofs.YtclhjlkgmeofcaaDoor
set_option linter.unusedVariables false
set_option linter.unusedSimpArgs false
open Go Go.RowKit

/-- a word of 32 bits -/
def W32 (x : Int) : Prop := 0 ≤ x ∧ x < 4294967296
/-- rotated to the right, as the walk spells it -/
def ror (x : Int) (n : Nat) : Int := bits .or .u32 (x * 2 ^ (32 - n) % 4294967296) (x / 2 ^ n)
theorem bits_u32_range (op : BinOp) (a b : Int) : W32 (bits op .u32 a b) := by
  unfold bits
  split <;> simp only [IntKind.wrap_u32'] <;> exact ⟨by omega, by omega⟩
theorem ror_range (x : Int) (n : Nat) : W32 (ror x n) := bits_u32_range _ _ _

theorem neg_and (n : Nat) (h1 : 1 ≤ n) (h2 : n ≤ 31) : bits .and .u64 (IntKind.u64.wrap (-(n : Int))) 31 = ((32 - n : Nat) : Int) := by
  have h := (by decide +kernel : ∀ m : Fin 32, 1 ≤ m.val → bits .and .u64 (IntKind.u64.wrap (-(m.val : Int))) 31 = ((32 - m.val : Nat) : Int)) ⟨n, by omega⟩ h1
  exact h

theorem rotl_any (x : Int) (n : Nat) (h1 : 1 ≤ n) (h2 : n ≤ 31) (hx : W32 x) (w : World) : Calls Tryd.prog 147 #[.int .u32 x, .int .i64 (-(n : Int))] w fun e w' => e = .returned (.int .u32 (ror x n)) ∧ w = w' := by
  obtain ⟨h3, h4⟩ := hx
  have hb := neg_and n h1 h2
  generalize hm : bits .and .u64 (IntKind.u64.wrap (-(n : Int))) 31 = m at *
  subst hb
  have e1 : 32 - (32 - n) = n := by omega
  have HM := Lib.hid e1; clear e1
  have hm1 : 1 ≤ 32 - n := by omega
  have hm2 : 32 - n ≤ 31 := by omega
  have hr : ror x n = bits .or .u32 (x * 2 ^ (32 - n) % 4294967296) (x / 2 ^ (32 - (32 - n))) := by rw [HM.out]; rfl
  have HR := Lib.hid hr; clear hr
  generalize 32 - n = k at *
  go_enter Tryd.func147, Tryd.ntmps147
  go_wp2
  go_ret
  exact ⟨ret_int HR.out.symm, rfl⟩

theorem right_any (x n : Int) (h1 : 1 ≤ n) (h2 : n ≤ 31) (hx : W32 x) (w : World) : Calls Tryd.prog 114 #[.int .u32 x, .int .i64 n] w fun e w' => e = .returned (.int .u32 (ror x n.toNat)) ∧ w = w' := by
  obtain ⟨n, rfl⟩ := Int.eq_ofNat_of_zero_le (show 0 ≤ n by omega)
  go_enter Tryd.func114, Tryd.ntmps114
  go_wp2_with (go_at_call 147; refine (rotl_any _ _ (by omega) (by omega) hx _).mono ?_; rintro e w' ⟨rfl, rfl⟩)
  go_ret
  exact ⟨rfl, rfl⟩

/-- the reference's, to the left by m: to the right by 32 - m -/
theorem rot_any (x m : Int) (h1 : 1 ≤ m) (h2 : m ≤ 31) (hx : W32 x) (w : World) : Calls Tryd.prog 118 #[.int .u32 x, .int .i64 m] w fun e w' => e = .returned (.int .u32 (ror x (32 - m.toNat))) ∧ w = w' := by
  obtain ⟨h3, h4⟩ := hx
  obtain ⟨m, rfl⟩ := Int.eq_ofNat_of_zero_le (show 0 ≤ m by omega)
  have hr : ror x (32 - m) = bits .or .u32 (x * 2 ^ m % 4294967296) (x / 2 ^ (32 - m)) := by
    unfold ror
    rw [show 32 - (32 - m) = m by omega]
  have HR := Lib.hid hr; clear hr
  go_enter Tryd.func118, Tryd.ntmps118
  go_wp2
  go_ret
  exact ⟨ret_int HR.out.symm, rfl⟩
end Go.Proofs.YtclhjlkgmeofcaaDoor
namespace Go.Proofs.YtclhjlkgmeofcaaDoor
set_option linter.unusedVariables false
set_option linter.unusedSimpArgs false
open Go Go.RowKit

def Words (l : List Int) : Prop := ∀ x ∈ l, W32 x
theorem Words.getD {l : List Int} (h : Words l) (j : Nat) : W32 (l.getD j 0) := by
  by_cases hj : j < l.length
  · have : l.getD j 0 = l[j] := by simp [hj]
    rw [this]; exact h _ (List.getElem_mem hj)
  · have : l.getD j 0 = 0 := by simp [List.getD, List.getElem?_eq_none (by omega : l.length ≤ j)]
    rw [this]; exact ⟨by omega, by omega⟩
theorem mod_range (x : Int) : W32 (x % 4294967296) := ⟨by omega, by omega⟩

/-- four bytes, the greatest first -/
def word (l : List Int) (i : Nat) : Int := bits .or .u32 (bits .or .u32 (bits .or .u32 (l.getD (4 * i) 0 * 16777216) (l.getD (4 * i + 1) 0 * 65536)) (l.getD (4 * i + 2) 0 * 256)) (l.getD (4 * i + 3) 0)
def ssig0 (x : Int) : Int := bits .xor .u32 (bits .xor .u32 (ror x 7) (ror x 18)) (x / 8)
def ssig1 (x : Int) : Int := bits .xor .u32 (bits .xor .u32 (ror x 17) (ror x 19)) (x / 1024)
def snext (ws : List Int) (n : Nat) : Int := (ws.getD (n - 16) 0 + ws.getD (n - 7) 0 + ssig0 (ws.getD (n - 15) 0) + ssig1 (ws.getD (n - 2) 0)) % 4294967296
/-- the words of the steps -/
def sched (l : List Int) : Nat → List Int
  | 0 => []
  | n + 1 => sched l n ++ [if n < 16 then word l n else snext (sched l n) n]
theorem sched_length (l : List Int) (n : Nat) : (sched l n).length = n := by
  induction n with
  | zero => rfl
  | succ n ih => simp [sched, ih]
theorem sched_words (l : List Int) (n : Nat) : Words (sched l n) := by
  induction n with
  | zero => intro x hx; simp [sched] at hx
  | succ n ih =>
    intro x hx
    simp only [sched, List.mem_append, List.mem_singleton] at hx
    rcases hx with hx | rfl
    · exact ih x hx
    · split
      · exact bits_u32_range _ _ _
      · exact mod_range _
/-- the words so far, and noughts -/
def sbuf (l : List Int) (n : Nat) : List Int := sched l n ++ List.replicate (64 - n) 0
theorem sbuf_length (l : List Int) (n : Nat) (h : n ≤ 64) : (sbuf l n).length = 64 := by simp [sbuf, sched_length]; omega
theorem sbuf_getD (l : List Int) (n j : Nat) (h : j < n) : (sbuf l n).getD j 0 = (sched l n).getD j 0 := by
  simp [sbuf, List.getD, List.getElem?_append_left, sched_length, h]
theorem sbuf_words (l : List Int) (n : Nat) : Words (sbuf l n) := by
  intro x hx
  simp only [sbuf, List.mem_append, List.mem_replicate] at hx
  rcases hx with hx | ⟨_, rfl⟩
  · exact sched_words l n x hx
  · exact ⟨by omega, by omega⟩
theorem sbuf_set (l : List Int) (n : Nat) (h : n < 64) (x : Int) (hx : x = if n < 16 then word l n else snext (sched l n) n) : (sbuf l n).set n x = sbuf l (n + 1) := by
  subst hx
  unfold sbuf
  rw [List.set_append_right _ _ (by rw [sched_length]; omega)]
  simp only [sched_length, Nat.sub_self]
  rw [show 64 - n = (64 - (n + 1)) + 1 by omega, List.replicate_succ, List.set_cons_zero]
  rw [sched]
  simp
theorem sbuf_full (l : List Int) : sbuf l 64 = sched l 64 := by simp [sbuf]

/-! the rounds -/
def bsig1 (e : Int) : Int := bits .xor .u32 (bits .xor .u32 (ror e 6) (ror e 11)) (ror e 25)
def bsig0 (a : Int) : Int := bits .xor .u32 (bits .xor .u32 (ror a 2) (ror a 13)) (ror a 22)
def chf (e f g : Int) : Int := bits .xor .u32 (bits .and .u32 e f) (bits .and .u32 (bits .xor .u32 IntKind.u32.max e) g)
def majf (a b c : Int) : Int := bits .xor .u32 (bits .xor .u32 (bits .and .u32 a b) (bits .and .u32 a c)) (bits .and .u32 b c)
structure St where
  (a b c d e f g h : Int)
def St.list (s : St) : List Int := [s.a, s.b, s.c, s.d, s.e, s.f, s.g, s.h]
def St.ok (s : St) : Prop := W32 s.a ∧ W32 s.b ∧ W32 s.c ∧ W32 s.d ∧ W32 s.e ∧ W32 s.f ∧ W32 s.g ∧ W32 s.h
def tone (s : St) (k x : Int) : Int := (s.h + bsig1 s.e + chf s.e s.f s.g + k + x) % 4294967296
def ttwo (s : St) : Int := (bsig0 s.a + majf s.a s.b s.c) % 4294967296
def St.round (s : St) (k x : Int) : St := ⟨(tone s k x + ttwo s) % 4294967296, s.a, s.b, s.c, (s.d + tone s k x) % 4294967296, s.e, s.f, s.g⟩
def St.plus (s t : St) : St := ⟨(s.a + t.a) % 4294967296, (s.b + t.b) % 4294967296, (s.c + t.c) % 4294967296, (s.d + t.d) % 4294967296, (s.e + t.e) % 4294967296, (s.f + t.f) % 4294967296, (s.g + t.g) % 4294967296, (s.h + t.h) % 4294967296⟩
theorem St.round_ok {s : St} (h : s.ok) (k x : Int) : (s.round k x).ok := ⟨mod_range _, h.1, h.2.1, h.2.2.1, mod_range _, h.2.2.2.2.1, h.2.2.2.2.2.1, h.2.2.2.2.2.2.1⟩
theorem St.plus_ok (s t : St) : (s.plus t).ok := ⟨mod_range _, mod_range _, mod_range _, mod_range _, mod_range _, mod_range _, mod_range _, mod_range _⟩
def k256 : List Int := [0x428a2f98, 0x71374491, 0xb5c0fbcf, 0xe9b5dba5, 0x3956c25b, 0x59f111f1, 0x923f82a4, 0xab1c5ed5, 0xd807aa98, 0x12835b01, 0x243185be, 0x550c7dc3, 0x72be5d74, 0x80deb1fe, 0x9bdc06a7, 0xc19bf174, 0xe49b69c1, 0xefbe4786, 0x0fc19dc6, 0x240ca1cc, 0x2de92c6f, 0x4a7484aa, 0x5cb0a9dc, 0x76f988da, 0x983e5152, 0xa831c66d, 0xb00327c8, 0xbf597fc7, 0xc6e00bf3, 0xd5a79147, 0x06ca6351, 0x14292967, 0x27b70a85, 0x2e1b2138, 0x4d2c6dfc, 0x53380d13, 0x650a7354, 0x766a0abb, 0x81c2c92e, 0x92722c85, 0xa2bfe8a1, 0xa81a664b, 0xc24b8b70, 0xc76c51a3, 0xd192e819, 0xd6990624, 0xf40e3585, 0x106aa070, 0x19a4c116, 0x1e376c08, 0x2748774c, 0x34b0bcb5, 0x391c0cb3, 0x4ed8aa4a, 0x5b9cca4f, 0x682e6ff3, 0x748f82ee, 0x78a5636f, 0x84c87814, 0x8cc70208, 0x90befffa, 0xa4506ceb, 0xbef9a3f7, 0xc67178f2]
def rounds (s : St) (ws : List Int) : Nat → St
  | 0 => s
  | n + 1 => (rounds s ws n).round (k256.getD n 0) (ws.getD n 0)
theorem rounds_ok {s : St} (h : s.ok) (ws : List Int) (n : Nat) : (rounds s ws n).ok := by
  induction n with
  | zero => exact h
  | succ n ih => exact St.round_ok ih _ _
/-- one block of 64 bytes -/
def compress (s : St) (l : List Int) : St := s.plus (rounds s (sched l 64) 64)
def iv256 : St := ⟨0x6a09e667, 0xbb67ae85, 0x3c6ef372, 0xa54ff53a, 0x510e527f, 0x9b05688c, 0x1f83d9ab, 0x5be0cd19⟩
theorem iv256_ok : iv256.ok := by unfold St.ok iv256 W32; decide
theorem k256_words : Words k256 := by unfold Words W32; decide
theorem k256_length : k256.length = 64 := by decide
/-- n blocks, from a state on -/
def run256 (s : St) (l : List Int) : Nat → St
  | 0 => s
  | n + 1 => compress (run256 s l n) ((l.drop (64 * n)).take 64)
theorem run256_ok {s : St} (h : s.ok) (l : List Int) (n : Nat) : (run256 s l n).ok := by
  cases n with
  | zero => exact h
  | succ n => exact St.plus_ok _ _
theorem run256_add (s : St) (l : List Int) (q i : Nat) : run256 s l (q + i) = run256 (run256 s l q) (l.drop (64 * q)) i := by
  induction i with
  | zero => rfl
  | succ i ih =>
    rw [← Nat.add_assoc, run256, run256, ih, List.drop_drop, show 64 * (q + i) = 64 * q + 64 * i by omega]
theorem run256_append (s : St) (l r : List Int) (q : Nat) (h : 64 * q ≤ l.length) : run256 s (l ++ r) q = run256 s l q := by
  induction q with
  | zero => rfl
  | succ q ih =>
    rw [run256, run256, ih (by omega), List.drop_append_of_le_length (by omega), List.take_append_of_le_length (by simp; omega)]
/-- blocks taken behind those of before are those of all -/
theorem run256_more (s : St) (l r : List Int) (i : Nat) :
    run256 (run256 s l (l.length / 64)) (l.drop (64 * (l.length / 64)) ++ r) i = run256 s (l ++ r) (l.length / 64 + i) := by
  rw [run256_add, run256_append s l r (l.length / 64) (by omega), List.drop_append_of_le_length (by omega)]
end Go.Proofs.YtclhjlkgmeofcaaDoor
