/- The reference's numbers: eight words; read from bytes, compared, whether one is a key. No condition. -/
import Derived.Test.YtajipagpdphejaaGA4
import Derived.Test.YtajipagpdphejaaGA9
namespace Go.Proofs.Ytajipagpdphejaa
set_option linter.unusedVariables false
set_option linter.unusedSimpArgs false
open Go Go.RowKit

/-- the eight words of a number, the lowest first -/
def words8 (v : Int) : List Int := (List.range 8).map fun i => v / 4294967296 ^ i % 4294967296
theorem words8_length (v : Int) : (words8 v).length = 8 := by simp [words8]
theorem words8_getD (v : Int) (i : Nat) (h : i < 8) : (words8 v).getD i 0 = v / 4294967296 ^ i % 4294967296 := by simp [words8, List.getD, h]
theorem words8_range (v : Int) (i : Nat) (h : i < 8) : 0 ≤ (words8 v).getD i 0 ∧ (words8 v).getD i 0 < 4294967296 := by rw [words8_getD _ _ h]; omega
theorem words8_wf (x : Int) : ∀ y ∈ words8 x, (Lit.int .u32 y).wf = true := fun y hy => by
  obtain ⟨i, hi, rfl⟩ := List.mem_map.1 hy
  exact wf_u32' (by omega) (by omega)
theorem B32_pos (i : Nat) : (0 : Int) < 4294967296 ^ i := Int.pow_pos (by decide)
/-- a number's top, word by word -/
theorem words8_step (v : Int) (i : Nat) (h : i < 8) : v / 4294967296 ^ i = 4294967296 * (v / 4294967296 ^ (i + 1)) + (words8 v).getD i 0 := by
  rw [words8_getD _ _ h, Int.pow_succ, ← Int.ediv_ediv_of_nonneg (Int.le_of_lt (B32_pos i))]
  omega
theorem u256_top {v : Int} (h : U256 v) : v / 4294967296 ^ 8 = 0 := by
  rw [show (4294967296 : Int) ^ 8 = 115792089237316195423570985008687907853269984665640564039457584007913129639936 by decide]
  exact Int.ediv_eq_zero_of_lt h.1 h.2
theorem less_top {u v : Int} (i : Nat) (h : u / 4294967296 ^ i < v / 4294967296 ^ i) : u < v := by
  refine Int.lt_of_not_ge fun hle => ?_
  have := Int.ediv_le_ediv (B32_pos i) hle
  omega
theorem words8_inj {x y : Int} (hx : U256 x) (hy : U256 y) (h : words8 x = words8 y) : x = y := by
  have key : ∀ k, k ≤ 8 → x / 4294967296 ^ (8 - k) = y / 4294967296 ^ (8 - k) := by
    intro k
    induction k with
    | zero => intro _; rw [Nat.sub_zero, u256_top hx, u256_top hy]
    | succ k ih =>
      intro hk
      have := ih (by omega)
      rw [words8_step x (8 - (k + 1)) (by omega), words8_step y (8 - (k + 1)) (by omega), h, show 8 - (k + 1) + 1 = 8 - k by omega, this]
  have := key 8 (Nat.le_refl _)
  simpa using this
theorem sz_rnum : (Try.prog.info? 37).map (·.size) = some 8 := by kernel_rfl
theorem rnum_equal (x y : Int) (hx : U256 x) (hy : U256 y) (W : World) : (Op.equalIn 10000 37 (.agg ((words8 x).map (Value.int .u32)).toArray) (.agg ((words8 y).map (Value.int .u32)).toArray)).run Try.prog W = .ok (decide (x = y)) W := by
  rw [arr_equal W 37 35 8 .u32 (by kernel_rfl) Try.underlying37 Try.underlying35 (by kernel_rfl) (by kernel_rfl) (words8 x) (words8 y) (words8_length x) (words8_wf x) (words8_length y) (words8_wf y)]
  have : decide (words8 x = words8 y) = decide (x = y) := by
    by_cases h : x = y
    · rw [decide_eq_true h, h]; simp
    · rw [decide_eq_false h, decide_eq_false (fun e => h (words8_inj hx hy e))]
  rw [this]
/-- word j, when the first i bytes have come -/
def wcell8 (l : List Int) (i j : Nat) : Int := be (((l.take i).drop (28 - 4 * j)).take 4)
def wst8 (l : List Int) (i : Nat) : List Int := (List.range 8).map (wcell8 l i)
theorem wst8_length (l : List Int) (i : Nat) : (wst8 l i).length = 8 := by simp [wst8]
theorem wst8_getD (l : List Int) (i k : Nat) (hk : k < 8) : (wst8 l i).getD k 0 = wcell8 l i k := by simp [wst8, List.getD, hk]
theorem wst8_zero (l : List Int) : wst8 l 0 = List.replicate 8 0 := by simp [wst8, wcell8, be, List.range_succ, List.replicate]
theorem ext8 {a b : List Int} (ha : a.length = 8) (hb : b.length = 8) (h : ∀ j, j < 8 → a.getD j 0 = b.getD j 0) : a = b := by
  apply List.ext_getElem (by omega)
  intro j h1 h2
  have := h j (by omega)
  simpa [List.getD, h1, h2] using this
theorem wcell8_range {l : List Int} (hb : Bytes l) (i j : Nat) : 0 ≤ wcell8 l i j ∧ wcell8 l i j < 4294967296 := by
  have h := be_range (l := ((l.take i).drop (28 - 4 * j)).take 4) (fun x h => hb x (List.mem_of_mem_take (List.mem_of_mem_drop (List.mem_of_mem_take h))))
  have hlen : (((l.take i).drop (28 - 4 * j)).take 4).length ≤ 4 := by simp; omega
  refine ⟨h.1, Int.lt_of_lt_of_le h.2 ?_⟩
  have hp : ∀ k : Fin 5, (256 : Int) ^ k.val ≤ 4294967296 := by decide
  exact hp ⟨_, by omega⟩
theorem wcell8_step {l : List Int} (hb : Bytes l) (hl : l.length = 32) {i : Nat} (h : i < 32) : wcell8 l (i + 1) (7 - i / 4) = wcell8 l i (7 - i / 4) * 256 + l.getD i 0 ∧ wcell8 l i (7 - i / 4) * 256 < 4294967296 ∧ ∀ j, j < 8 → j ≠ 7 - i / 4 → wcell8 l (i + 1) j = wcell8 l i j := by
  have h8 : 28 - 4 * (7 - i / 4) = 4 * (i / 4) := by omega
  have hlen : ((l.take i).drop (4 * (i / 4))).length ≤ 3 := by rw [List.length_drop, List.length_take]; omega
  refine ⟨?_, ?_, fun j hj hne => ?_⟩
  · unfold wcell8
    have e : (l.take (i + 1)).drop (4 * (i / 4)) = (l.take i).drop (4 * (i / 4)) ++ [l.getD i 0] := by
      rw [List.take_succ_eq_append_getElem (by omega), List.drop_append_of_le_length (by rw [List.length_take]; omega)]
      simp [List.getD, show i < l.length by omega]
    rw [h8, e]
    generalize (l.take i).drop (4 * (i / 4)) = A at *
    have t1 : (A ++ [l.getD i 0]).take 4 = A ++ [l.getD i 0] := List.take_of_length_le (by rw [List.length_append, List.length_singleton]; omega)
    have t2 : A.take 4 = A := List.take_of_length_le (by omega)
    rw [t1, t2, be_snoc]
  · have hr := be_range (l := ((l.take i).drop (4 * (i / 4))).take 4) (fun x h => hb x (List.mem_of_mem_take (List.mem_of_mem_drop (List.mem_of_mem_take h))))
    have hlen2 : (((l.take i).drop (4 * (i / 4))).take 4).length ≤ 3 := by rw [List.length_take]; omega
    have hp : ∀ k : Fin 4, (256 : Int) ^ k.val ≤ 16777216 := by decide
    unfold wcell8
    rw [h8]
    generalize ((l.take i).drop (4 * (i / 4))).take 4 = A at *
    have h3 := Int.lt_of_lt_of_le hr.2 (hp ⟨A.length, by omega⟩)
    omega
  · unfold wcell8
    by_cases hc : j < 7 - i / 4
    · rw [List.drop_eq_nil_of_le (by simp; omega), List.drop_eq_nil_of_le (by simp; omega)]
    · have e : ∀ m, 28 - 4 * j + 4 ≤ m → ((l.take m).drop (28 - 4 * j)).take 4 = (l.drop (28 - 4 * j)).take 4 := by
        intro m hm
        rw [List.drop_take, List.take_take, Nat.min_eq_left (by omega)]
      rw [e i (by omega), e (i + 1) (by omega)]
theorem wst8_set {l : List Int} (hb : Bytes l) (hl : l.length = 32) {i : Nat} (h : i < 32) : (wst8 l i).set (7 - i / 4) (wcell8 l i (7 - i / 4) * 256 + l.getD i 0) = wst8 l (i + 1) := by
  obtain ⟨h1, _, h3⟩ := wcell8_step hb hl h
  refine ext8 (by simp [wst8_length]) (wst8_length _ _) (fun j hj => ?_)
  rw [getD_set _ _ _ _ (by rw [wst8_length]; exact hj), wst8_getD _ _ _ hj, wst8_getD _ _ _ hj]
  by_cases e : 7 - i / 4 = j
  · rw [if_pos e, ← h1, e]
  · rw [if_neg e, h3 j hj (fun x => e x.symm)]
theorem wst8_full {l : List Int} (hb : Bytes l) (hl : l.length = 32) : wst8 l 32 = words8 (be l) := by
  refine ext8 (wst8_length _ _) (words8_length _) (fun j hj => ?_)
  rw [wst8_getD _ _ _ hj, words8_getD _ _ hj]
  have e : l = l.take (28 - 4 * j) ++ ((l.drop (28 - 4 * j)).take 4 ++ l.drop (32 - 4 * j)) := by
    have h1 := List.take_append_drop (28 - 4 * j) l
    have h2 := List.take_append_drop 4 (l.drop (28 - 4 * j))
    rw [List.drop_drop, show 28 - 4 * j + 4 = 32 - 4 * j by omega] at h2
    rw [h2, h1]
  have hmid : (l.drop (28 - 4 * j)).take 4 = ((l.take 32).drop (28 - 4 * j)).take 4 := by rw [List.take_of_length_le (by omega : l.length ≤ 32)]
  have hml : ((l.drop (28 - 4 * j)).take 4).length = 4 := by simp; omega
  have htl : (l.drop (32 - 4 * j)).length = 4 * j := by simp; omega
  have ht := be_range (l := l.drop (32 - 4 * j)) (fun x h => hb x (List.mem_of_mem_drop h))
  have hm := be_range (l := (l.drop (28 - 4 * j)).take 4) (fun x h => hb x (List.mem_of_mem_drop (List.mem_of_mem_take h)))
  rw [htl] at ht
  rw [hml] at hm
  have hM : (4294967296 : Int) ^ j = 256 ^ (4 * j) := by rw [Int.pow_mul]; rfl
  rw [wcell8, ← hmid, hM]
  conv => rhs; rw [e]
  rw [be_append, be_append, List.length_append, hml, htl]
  generalize be ((l.drop (28 - 4 * j)).take 4) = B at *
  generalize be (l.drop (32 - 4 * j)) = C at *
  generalize be (l.take (28 - 4 * j)) = A at *
  have hp : (0 : Int) < 256 ^ (4 * j) := Int.pow_pos (by decide)
  rw [Int.pow_add, ← Int.mul_assoc, ← Int.add_assoc, ← Int.add_mul, Int.add_comm _ C, Int.add_mul_ediv_right _ _ (Int.ne_of_gt hp), Int.ediv_eq_zero_of_lt ht.1 ht.2, Int.zero_add]
  omega
set_option maxRecDepth 100000 in
set_option maxHeartbeats 4000000 in
theorem rof_any (v : Value) (l : List Int) (w : World) (hr : Rd w 1 v 32 (l.map (Value.int .u8))) (hb : Bytes l) (hl : l.length = 32) :
    Calls Try.prog 24 #[v] w fun e w' => e = .returned (.agg ((words8 (be l)).map (Value.int .u32)).toArray) ∧ Keeps w w' := by
  obtain ⟨g, off, cap, rfl, hg, hrow⟩ : ∃ g off cap, v = .slice (some ⟨g, off, none⟩) 32 cap ∧ g < w.heap.size ∧ Row w g off (l.map (Value.int .u8)) := by
    obtain ⟨_, a, cap, rfl, h2, h3, h4, h5⟩ := hr
    cases a with
    | none => have := (h4 rfl).1; omega
    | some ad =>
      obtain ⟨g, off, rfl, hg, hr⟩ := h5 ad rfl (by omega)
      exact ⟨g, off, cap, rfl, hg, hr⟩
  have HB := Lib.hid hb
  have HW := Lib.hid (wst8_full hb hl)
  have HRD := Lib.hid hrow
  clear hr hrow
  go_enter Try.func24, Try.ntmps24
  go_upto_region 2 with (fail)
  refine cu_rows2 (fun W hk hr2 hr3 hs => ?_)
  obtain ⟨p, hp⟩ : ∃ p, p = w.heap.size := ⟨_, rfl⟩
  rw [← hp] at hr2 hr3 hs hg ⊢
  have hkp : w.heap.size ≤ p := by omega
  obtain ⟨Z, hZ, hrz⟩ : ∃ Z : List Value, Z.length = 8 ∧ Row W p 0 Z := ⟨_, rfl, hr2⟩
  have HR2 := Lib.hid hrz
  have HR3 := Lib.hid (show Row W (p + 1) 0 ((wst8 l 0).map (Value.int .u32)) by rw [wst8_zero]; exact hr3)
  have HK := Lib.hid hk
  clear hp hr2 hrz hr3 hk hb hs
  go_wp2
  go_loopw [4] (fun c wr => ∃ i : Nat, i ≤ 32 ∧ c = .int .i64 i ∧ Keeps w wr ∧ Row wr p 0 Z ∧ Row wr (p + 1) 0 ((wst8 l i).map (Value.int .u32))) (fun c _ => (32 - intOf c).toNat)
  case atStart => exact ⟨0, by omega, rfl, HK.out, HR2.out, HR3.out⟩
  case round =>
    obtain ⟨i, hi, rfl, hk, hr2, hr3⟩ := hrel
    by_cases hlt : i < 32
    · have hcz := (HRD.out.keeps hk).int i (by rw [hl]; exact hlt)
      have b1 := HB.out.getD i
      have c3 := hr3.int0 (7 - i / 4) (by rw [wst8_length]; omega)
      rw [wst8_getD _ _ _ (by omega)] at c3
      have f3 := hr3.free0 (7 - i / 4) (by rw [List.length_map, wst8_length]; omega)
      have hs := hr3.setInt0 (7 - i / 4) (by rw [wst8_length]; omega) (wcell8 l i (7 - i / 4) * 256 + l.getD i 0)
      rw [wst8_set HB.out hl hlt] at hs
      have hr := wcell8_range HB.out i (7 - i / 4)
      have hr' := (wcell8_step HB.out hl hlt).2.1
      generalize l.getD i 0 = y at *
      generalize wcell8 l i (7 - i / 4) = x at *
      obtain ⟨b00, b01⟩ := b1
      obtain ⟨x0, x1⟩ := hr
      have HS := Lib.hid hs; have H2 := Lib.hid hr2; have HK2 := Lib.hid hk
      clear hs hr2 hr3 hk
      go_wp2
      go_region
      go_wp2
      go_roundw
      case rel => exact ⟨i + 1, by omega, by go_num, keeps_drew1 (keeps_set HK2.out (by omega) _), (H2.out.other (by simp) _).drew, by exact HS.out⟩
      case measure => simp [intOf]; omega
    · obtain rfl : i = 32 := by omega
      rw [HW.out] at hr3
      have H2 := Lib.hid hr2; have H3 := Lib.hid hr3; have HK2 := Lib.hid hk
      clear hr2 hr3 hk
      have hl9 := words8_length (be l)
      generalize hRR : words8 (be l) = RR at *
      have HRR := Lib.hid hRR
      clear hRR
      go_wp2_with (first | (refine wpList_load_at rfl 37 (.tmp 3) rfl _ 0 rfl (RR.map (Value.int .u32)) _ H3.out Try.underlying37 rfl (by rw [List.length_map, hl9]; exact sz_rnum) ?_) | (refine wpList_store_row rfl 37 (.tmp 2) (.tmp 25) rfl p 0 rfl Z (RR.map (Value.int .u32)) rfl H2.out (by rw [List.length_map, hl9, hZ]) (by rw [List.length_map, hl9]; exact sz_rnum) (int_oneCell _) ?_; intro w9 hr9 hc9; have H9 := Lib.hid hr9; have HC9 := Lib.hid hc9; clear hr9 hc9))
      exact bodyPost_ret (v := .agg (RR.map (Value.int .u32)).toArray) (results_cell_at (p := 2) (ty := 37) rfl _ _ p 0 _ _ rfl H9.out Try.underlying37 rfl (by rw [List.length_map, hl9]; exact sz_rnum)) rfl ⟨by rw [HRR.out], nm_keeps_chg HK2.out HC9.out (by omega)⟩
end Go.Proofs.Ytajipagpdphejaa
