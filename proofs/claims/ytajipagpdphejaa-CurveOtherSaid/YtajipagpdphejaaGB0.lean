/- The reference's numbers: eight words; read from bytes, compared, whether one is a key. No condition. | The reference's Less, N and Key. No condition. -/
import Derived.Test.YtajipagpdphejaaGA5
import Derived.Test.YtajipagpdphejaaGA9
namespace Go.Proofs.Ytajipagpdphejaa
set_option linter.unusedVariables false
set_option linter.unusedSimpArgs false
open Go Go.RowKit

/-- the eight words of a number, the lowest first -/
def words8 (v : Int) : List Int := (List.range 8).map fun i => v / 4294967296 ^ i % 4294967296
theorem words8_length (v : Int) : (words8 v).length = 8 := by simp [words8]
theorem words8_getD (v : Int) (i : Nat) (h : i < 8) : (words8 v).getD i 0 = v / 4294967296 ^ i % 4294967296 := by simp [words8, List.getD, h]
theorem words8_range (v : Int) (i : Nat) (h : i < 8) : 0 ≤ (words8 v).getD i 0 ∧ (words8 v).getD i 0 < 4294967296 := by rw [words8_getD _ _ h]; omega
theorem words8_wf (x : Int) : ∀ y ∈ words8 x, (Lit.int .u32 y).wf = true := fun y hy => by
  obtain ⟨i, hi, rfl⟩ := List.mem_map.1 hy
  exact wf_u32' (by omega) (by omega)
theorem B32_pos (i : Nat) : (0 : Int) < 4294967296 ^ i := Int.pow_pos (by decide)
/-- a number's top, word by word -/
theorem words8_step (v : Int) (i : Nat) (h : i < 8) : v / 4294967296 ^ i = 4294967296 * (v / 4294967296 ^ (i + 1)) + (words8 v).getD i 0 := by
  rw [words8_getD _ _ h, Int.pow_succ, ← Int.ediv_ediv_of_nonneg (Int.le_of_lt (B32_pos i))]
  omega
theorem u256_top {v : Int} (h : U256 v) : v / 4294967296 ^ 8 = 0 := by
  rw [show (4294967296 : Int) ^ 8 = 115792089237316195423570985008687907853269984665640564039457584007913129639936 by decide]
  exact Int.ediv_eq_zero_of_lt h.1 h.2
theorem less_top {u v : Int} (i : Nat) (h : u / 4294967296 ^ i < v / 4294967296 ^ i) : u < v := by
  refine Int.lt_of_not_ge fun hle => ?_
  have := Int.ediv_le_ediv (B32_pos i) hle
  omega
theorem words8_inj {x y : Int} (hx : U256 x) (hy : U256 y) (h : words8 x = words8 y) : x = y := by
  have key : ∀ k, k ≤ 8 → x / 4294967296 ^ (8 - k) = y / 4294967296 ^ (8 - k) := by
    intro k
    induction k with
    | zero => intro _; rw [Nat.sub_zero, u256_top hx, u256_top hy]
    | succ k ih =>
      intro hk
      have := ih (by omega)
      rw [words8_step x (8 - (k + 1)) (by omega), words8_step y (8 - (k + 1)) (by omega), h, show 8 - (k + 1) + 1 = 8 - k by omega, this]
  have := key 8 (Nat.le_refl _)
  simpa using this
theorem sz_rnum : (Try.prog.info? 37).map (·.size) = some 8 := by kernel_rfl
theorem rnum_equal (x y : Int) (hx : U256 x) (hy : U256 y) (W : World) : (Op.equalIn 10000 37 (.agg ((words8 x).map (Value.int .u32)).toArray) (.agg ((words8 y).map (Value.int .u32)).toArray)).run Try.prog W = .ok (decide (x = y)) W := by
  rw [arr_equal W 37 35 8 .u32 (by kernel_rfl) Try.underlying37 Try.underlying35 (by kernel_rfl) (by kernel_rfl) (words8 x) (words8 y) (words8_length x) (words8_wf x) (words8_length y) (words8_wf y)]
  have : decide (words8 x = words8 y) = decide (x = y) := by
    by_cases h : x = y
    · rw [decide_eq_true h, h]; simp
    · rw [decide_eq_false h, decide_eq_false (fun e => h (words8_inj hx hy e))]
  rw [this]
/-- word j, when the first i bytes have come -/
def wcell8 (l : List Int) (i j : Nat) : Int := be (((l.take i).drop (28 - 4 * j)).take 4)
def wst8 (l : List Int) (i : Nat) : List Int := (List.range 8).map (wcell8 l i)
theorem wst8_length (l : List Int) (i : Nat) : (wst8 l i).length = 8 := by simp [wst8]
theorem wst8_getD (l : List Int) (i k : Nat) (hk : k < 8) : (wst8 l i).getD k 0 = wcell8 l i k := by simp [wst8, List.getD, hk]
theorem wst8_zero (l : List Int) : wst8 l 0 = List.replicate 8 0 := by simp [wst8, wcell8, be, List.range_succ, List.replicate]
theorem ext8 {a b : List Int} (ha : a.length = 8) (hb : b.length = 8) (h : ∀ j, j < 8 → a.getD j 0 = b.getD j 0) : a = b := by
  apply List.ext_getElem (by omega)
  intro j h1 h2
  have := h j (by omega)
  simpa [List.getD, h1, h2] using this
theorem wcell8_range {l : List Int} (hb : Bytes l) (i j : Nat) : 0 ≤ wcell8 l i j ∧ wcell8 l i j < 4294967296 := by
  have h := be_range (l := ((l.take i).drop (28 - 4 * j)).take 4) (fun x h => hb x (List.mem_of_mem_take (List.mem_of_mem_drop (List.mem_of_mem_take h))))
  have hlen : (((l.take i).drop (28 - 4 * j)).take 4).length ≤ 4 := by simp; omega
  refine ⟨h.1, Int.lt_of_lt_of_le h.2 ?_⟩
  have hp : ∀ k : Fin 5, (256 : Int) ^ k.val ≤ 4294967296 := by decide
  exact hp ⟨_, by omega⟩
theorem wcell8_step {l : List Int} (hb : Bytes l) (hl : l.length = 32) {i : Nat} (h : i < 32) : wcell8 l (i + 1) (7 - i / 4) = wcell8 l i (7 - i / 4) * 256 + l.getD i 0 ∧ wcell8 l i (7 - i / 4) * 256 < 4294967296 ∧ ∀ j, j < 8 → j ≠ 7 - i / 4 → wcell8 l (i + 1) j = wcell8 l i j := by
  have h8 : 28 - 4 * (7 - i / 4) = 4 * (i / 4) := by omega
  have hlen : ((l.take i).drop (4 * (i / 4))).length ≤ 3 := by rw [List.length_drop, List.length_take]; omega
  refine ⟨?_, ?_, fun j hj hne => ?_⟩
  · unfold wcell8
    have e : (l.take (i + 1)).drop (4 * (i / 4)) = (l.take i).drop (4 * (i / 4)) ++ [l.getD i 0] := by
      rw [List.take_succ_eq_append_getElem (by omega), List.drop_append_of_le_length (by rw [List.length_take]; omega)]
      simp [List.getD, show i < l.length by omega]
    rw [h8, e]
    generalize (l.take i).drop (4 * (i / 4)) = A at *
    have t1 : (A ++ [l.getD i 0]).take 4 = A ++ [l.getD i 0] := List.take_of_length_le (by rw [List.length_append, List.length_singleton]; omega)
    have t2 : A.take 4 = A := List.take_of_length_le (by omega)
    rw [t1, t2, be_snoc]
  · have hr := be_range (l := ((l.take i).drop (4 * (i / 4))).take 4) (fun x h => hb x (List.mem_of_mem_take (List.mem_of_mem_drop (List.mem_of_mem_take h))))
    have hlen2 : (((l.take i).drop (4 * (i / 4))).take 4).length ≤ 3 := by rw [List.length_take]; omega
    have hp : ∀ k : Fin 4, (256 : Int) ^ k.val ≤ 16777216 := by decide
    unfold wcell8
    rw [h8]
    generalize ((l.take i).drop (4 * (i / 4))).take 4 = A at *
    have h3 := Int.lt_of_lt_of_le hr.2 (hp ⟨A.length, by omega⟩)
    omega
  · unfold wcell8
    by_cases hc : j < 7 - i / 4
    · rw [List.drop_eq_nil_of_le (by simp; omega), List.drop_eq_nil_of_le (by simp; omega)]
    · have e : ∀ m, 28 - 4 * j + 4 ≤ m → ((l.take m).drop (28 - 4 * j)).take 4 = (l.drop (28 - 4 * j)).take 4 := by
        intro m hm
        rw [List.drop_take, List.take_take, Nat.min_eq_left (by omega)]
      rw [e i (by omega), e (i + 1) (by omega)]
theorem wst8_set {l : List Int} (hb : Bytes l) (hl : l.length = 32) {i : Nat} (h : i < 32) : (wst8 l i).set (7 - i / 4) (wcell8 l i (7 - i / 4) * 256 + l.getD i 0) = wst8 l (i + 1) := by
  obtain ⟨h1, _, h3⟩ := wcell8_step hb hl h
  refine ext8 (by simp [wst8_length]) (wst8_length _ _) (fun j hj => ?_)
  rw [getD_set _ _ _ _ (by rw [wst8_length]; exact hj), wst8_getD _ _ _ hj, wst8_getD _ _ _ hj]
  by_cases e : 7 - i / 4 = j
  · rw [if_pos e, ← h1, e]
  · rw [if_neg e, h3 j hj (fun x => e x.symm)]
theorem wst8_full {l : List Int} (hb : Bytes l) (hl : l.length = 32) : wst8 l 32 = words8 (be l) := by
  refine ext8 (wst8_length _ _) (words8_length _) (fun j hj => ?_)
  rw [wst8_getD _ _ _ hj, words8_getD _ _ hj]
  have e : l = l.take (28 - 4 * j) ++ ((l.drop (28 - 4 * j)).take 4 ++ l.drop (32 - 4 * j)) := by
    have h1 := List.take_append_drop (28 - 4 * j) l
    have h2 := List.take_append_drop 4 (l.drop (28 - 4 * j))
    rw [List.drop_drop, show 28 - 4 * j + 4 = 32 - 4 * j by omega] at h2
    rw [h2, h1]
  have hmid : (l.drop (28 - 4 * j)).take 4 = ((l.take 32).drop (28 - 4 * j)).take 4 := by rw [List.take_of_length_le (by omega : l.length ≤ 32)]
  have hml : ((l.drop (28 - 4 * j)).take 4).length = 4 := by simp; omega
  have htl : (l.drop (32 - 4 * j)).length = 4 * j := by simp; omega
  have ht := be_range (l := l.drop (32 - 4 * j)) (fun x h => hb x (List.mem_of_mem_drop h))
  have hm := be_range (l := (l.drop (28 - 4 * j)).take 4) (fun x h => hb x (List.mem_of_mem_drop (List.mem_of_mem_take h)))
  rw [htl] at ht
  rw [hml] at hm
  have hM : (4294967296 : Int) ^ j = 256 ^ (4 * j) := by rw [Int.pow_mul]; rfl
  rw [wcell8, ← hmid, hM]
  conv => rhs; rw [e]
  rw [be_append, be_append, List.length_append, hml, htl]
  generalize be ((l.drop (28 - 4 * j)).take 4) = B at *
  generalize be (l.drop (32 - 4 * j)) = C at *
  generalize be (l.take (28 - 4 * j)) = A at *
  have hp : (0 : Int) < 256 ^ (4 * j) := Int.pow_pos (by decide)
  rw [Int.pow_add, ← Int.mul_assoc, ← Int.add_assoc, ← Int.add_mul, Int.add_comm _ C, Int.add_mul_ediv_right _ _ (Int.ne_of_gt hp), Int.ediv_eq_zero_of_lt ht.1 ht.2, Int.zero_add]
  omega
set_option maxRecDepth 100000 in
set_option maxHeartbeats 4000000 in
theorem rof_any (v : Value) (l : List Int) (w : World) (hr : Rd w 1 v 32 (l.map (Value.int .u8))) (hb : Bytes l) (hl : l.length = 32) :
    Calls Try.prog 24 #[v] w fun e w' => e = .returned (.agg ((words8 (be l)).map (Value.int .u32)).toArray) ∧ Keeps w w' := by
  obtain ⟨g, off, cap, rfl, hg, hrow⟩ : ∃ g off cap, v = .slice (some ⟨g, off, none⟩) 32 cap ∧ g < w.heap.size ∧ Row w g off (l.map (Value.int .u8)) := by
    obtain ⟨_, a, cap, rfl, h2, h3, h4, h5⟩ := hr
    cases a with
    | none => have := (h4 rfl).1; omega
    | some ad =>
      obtain ⟨g, off, rfl, hg, hr⟩ := h5 ad rfl (by omega)
      exact ⟨g, off, cap, rfl, hg, hr⟩
  have HB := Lib.hid hb
  have HW := Lib.hid (wst8_full hb hl)
  have HRD := Lib.hid hrow
  clear hr hrow
  go_enter Try.func24, Try.ntmps24
  go_upto_region 2 with (fail)
  refine cu_rows2 (fun W hk hr2 hr3 hs => ?_)
  obtain ⟨p, hp⟩ : ∃ p, p = w.heap.size := ⟨_, rfl⟩
  rw [← hp] at hr2 hr3 hs hg ⊢
  have hkp : w.heap.size ≤ p := by omega
  obtain ⟨Z, hZ, hrz⟩ : ∃ Z : List Value, Z.length = 8 ∧ Row W p 0 Z := ⟨_, rfl, hr2⟩
  have HR2 := Lib.hid hrz
  have HR3 := Lib.hid (show Row W (p + 1) 0 ((wst8 l 0).map (Value.int .u32)) by rw [wst8_zero]; exact hr3)
  have HK := Lib.hid hk
  clear hp hr2 hrz hr3 hk hb hs
  go_wp2
  go_loopw [4] (fun c wr => ∃ i : Nat, i ≤ 32 ∧ c = .int .i64 i ∧ Keeps w wr ∧ Row wr p 0 Z ∧ Row wr (p + 1) 0 ((wst8 l i).map (Value.int .u32))) (fun c _ => (32 - intOf c).toNat)
  case atStart => exact ⟨0, by omega, rfl, HK.out, HR2.out, HR3.out⟩
  case round =>
    obtain ⟨i, hi, rfl, hk, hr2, hr3⟩ := hrel
    by_cases hlt : i < 32
    · have hcz := (HRD.out.keeps hk).int i (by rw [hl]; exact hlt)
      have b1 := HB.out.getD i
      have c3 := hr3.int0 (7 - i / 4) (by rw [wst8_length]; omega)
      rw [wst8_getD _ _ _ (by omega)] at c3
      have f3 := hr3.free0 (7 - i / 4) (by rw [List.length_map, wst8_length]; omega)
      have hs := hr3.setInt0 (7 - i / 4) (by rw [wst8_length]; omega) (wcell8 l i (7 - i / 4) * 256 + l.getD i 0)
      rw [wst8_set HB.out hl hlt] at hs
      have hr := wcell8_range HB.out i (7 - i / 4)
      have hr' := (wcell8_step HB.out hl hlt).2.1
      generalize l.getD i 0 = y at *
      generalize wcell8 l i (7 - i / 4) = x at *
      obtain ⟨b00, b01⟩ := b1
      obtain ⟨x0, x1⟩ := hr
      have HS := Lib.hid hs; have H2 := Lib.hid hr2; have HK2 := Lib.hid hk
      clear hs hr2 hr3 hk
      go_wp2
      go_region
      go_wp2
      go_roundw
      case rel => exact ⟨i + 1, by omega, by go_num, keeps_drew1 (keeps_set HK2.out (by omega) _), (H2.out.other (by simp) _).drew, by exact HS.out⟩
      case measure => simp [intOf]; omega
    · obtain rfl : i = 32 := by omega
      rw [HW.out] at hr3
      have H2 := Lib.hid hr2; have H3 := Lib.hid hr3; have HK2 := Lib.hid hk
      clear hr2 hr3 hk
      have hl9 := words8_length (be l)
      generalize hRR : words8 (be l) = RR at *
      have HRR := Lib.hid hRR
      clear hRR
      go_wp2_with (first | (refine wpList_load_at rfl 37 (.tmp 3) rfl _ 0 rfl (RR.map (Value.int .u32)) _ H3.out Try.underlying37 rfl (by rw [List.length_map, hl9]; exact sz_rnum) ?_) | (refine wpList_store_row rfl 37 (.tmp 2) (.tmp 25) rfl p 0 rfl Z (RR.map (Value.int .u32)) rfl H2.out (by rw [List.length_map, hl9, hZ]) (by rw [List.length_map, hl9]; exact sz_rnum) (int_oneCell _) ?_; intro w9 hr9 hc9; have H9 := Lib.hid hr9; have HC9 := Lib.hid hc9; clear hr9 hc9))
      exact bodyPost_ret (v := .agg (RR.map (Value.int .u32)).toArray) (results_cell_at (p := 2) (ty := 37) rfl _ _ p 0 _ _ rfl H9.out Try.underlying37 rfl (by rw [List.length_map, hl9]; exact sz_rnum)) rfl ⟨by rw [HRR.out], nm_keeps_chg HK2.out HC9.out (by omega)⟩
set_option maxRecDepth 100000 in
set_option maxHeartbeats 4000000 in
theorem rless8_any (u v : Int) (hu : U256 u) (hv : U256 v) (w : World) :
    Calls Try.prog 25 #[.agg ((words8 u).map (Value.int .u32)).toArray, .agg ((words8 v).map (Value.int .u32)).toArray] w fun e w' => e = .returned (.bool (decide (u < v))) ∧ Keeps w w' := by
  have hsu := words8_step u
  have hsv := words8_step v
  have htu := u256_top hu
  have htv := u256_top hv
  have hul := words8_length u
  have hvl := words8_length v
  generalize words8 u = U at *
  generalize words8 v = V at *
  have HSU := Lib.hid hsu; have HSV := Lib.hid hsv; have HUL := Lib.hid hul; have HVL := Lib.hid hvl
  have H8 := Lib.hid (show u / 4294967296 ^ 8 = v / 4294967296 ^ 8 by rw [htu, htv])
  clear hsu hsv htu htv hul hvl hu hv
  obtain ⟨RR, hRR⟩ : ∃ RR : Bool, RR = decide (u < v) := ⟨_, rfl⟩
  rw [← hRR]
  have HRR := Lib.hid hRR
  clear hRR
  go_enter Try.func25, Try.ntmps25
  go_upto_region 1 with (fail)
  refine cu_rows2 (fun W hk hra hrb hs => ?_)
  have HRA := Lib.hid (show Row W w.heap.size 0 (U.map (Value.int .u32)) from hra); have HRB := Lib.hid (show Row W (w.heap.size + 1) 0 (V.map (Value.int .u32)) from hrb); have HK := Lib.hid hk
  clear hra hrb hs hk
  generalize w.heap.size = p at *
  go_wp2
  go_loopw [5] (fun c wr => ∃ (k : Nat) (z : Int), k ≤ 8 ∧ c = .int .i64 z ∧ Hid (z = (k : Int) - 1) ∧ Hid (Keeps W wr) ∧ Hid (u / 4294967296 ^ k = v / 4294967296 ^ k)) (fun c _ => (intOf c + 1).toNat)
  case atStart => exact ⟨8, 7, by omega, rfl, Lib.hid (by omega), Lib.hid (Keeps.refl _), H8⟩
  case round =>
    obtain ⟨k, z, hk8, rfl, HZ, HKR, HE⟩ := hrel
    have hkc : k = 0 ∨ ∃ i, k = i + 1 := by
      cases k with
      | zero => exact .inl rfl
      | succ i => exact .inr ⟨i, rfl⟩
    rcases hkc with rfl | ⟨i, rfl⟩
    · obtain rfl : z = -1 := by have := HZ.out; omega
      obtain rfl : RR = false := by
        have := HE.out
        simp only [Int.pow_zero, Int.ediv_one] at this
        rw [HRR.out]
        exact decide_eq_false (by omega)
      go_wp2
      go_ret
      exact ⟨rfl, HK.out.trans HKR.out⟩
    · obtain rfl : z = (i : Int) := by have := HZ.out; omega
      have hi : i < 8 := by omega
      have c1 := (HRA.out.keeps HKR.out).int0 i (by rw [HUL.out]; exact hi)
      have c2 := (HRB.out.keeps HKR.out).int0 i (by rw [HVL.out]; exact hi)
      have h1 := HSU.out i hi
      have h2 := HSV.out i hi
      have hd : U.getD i 0 < V.getD i 0 → u < v := fun h => less_top i (by rw [h1, h2, HE.out]; omega)
      have hd2 : V.getD i 0 < U.getD i 0 → v < u := fun h => less_top i (by rw [h1, h2, HE.out]; omega)
      have hd3 : U.getD i 0 = V.getD i 0 → u / 4294967296 ^ i = v / 4294967296 ^ i := fun h => by rw [h1, h2, HE.out, h]
      have HD := Lib.hid hd; have HD2 := Lib.hid hd2; have HD3 := Lib.hid hd3
      clear h1 h2 hd hd2 hd3
      generalize U.getD i 0 = x at *
      generalize V.getD i 0 = y at *
      by_cases hx : x = y
      · have z1 : (x != y) = false := by rw [bne_eq_false_iff_eq]; exact hx
        have HX := Lib.hid (HD3.out hx)
        clear hx
        go_wp2
        go_quiet (fail)
        go_wp2
        go_roundw
        case rel => exact ⟨i, (i : Int) - 1, by omega, rfl, Lib.hid rfl, Lib.hid (HKR.out.trans (Qt.drewN _ _).keeps), HX⟩
        case measure => simp [intOf] <;> omega
      · have z1 : (x != y) = true := by rw [bne_iff_ne]; exact hx
        obtain rfl : RR = decide (x < y) := by
          rw [HRR.out]
          by_cases h : x < y
          · rw [decide_eq_true h, decide_eq_true (HD.out h)]
          · have := HD2.out (by omega)
            rw [decide_eq_false h, decide_eq_false (by omega)]
        clear hx
        go_wp2
        go_quiet (fail)
        go_wp2
        go_quiet (fail)
        go_wp2
        go_ret
        exact ⟨by first | rfl | exact ret_bool (by simp), HK.out.trans ((HKR.out.trans (Qt.drewN _ _).keeps).trans (Qt.drewN _ _).keeps)⟩
/-- the order of the group -/
def NV : Int := 115792089237316195423570985008687907852837564279074904382605163141518161494337
theorem NV_u256 : U256 NV := by unfold U256 NV; exact ⟨by decide, by decide⟩
theorem built_rn : Try.prog.built 37 [(0, .int .u32 3493216577), (1, .int .u32 3218235020), (2, .int .u32 2940772411), (3, .int .u32 3132021990), (4, .int .u32 4294967294), (5, .int .u32 4294967295), (6, .int .u32 4294967295), (7, .int .u32 4294967295)] = some ((words8 NV).map (Value.int .u32)).toArray := by kernel_rfl
theorem built_rnum0 : Try.prog.built 37 [] = some ((words8 0).map (Value.int .u32)).toArray := by kernel_rfl
set_option maxRecDepth 100000 in
theorem rn_any (w : World) : Calls Try.prog 27 #[] w fun e w' => e = .returned (.agg ((words8 NV).map (Value.int .u32)).toArray) ∧ Keeps w w' := by
  have HB := Lib.hid built_rn
  have hl := words8_length NV
  generalize words8 NV = X at *
  go_enter Try.func27, Try.ntmps27
  go_upto_region 1 with (fail)
  refine cu_rows1 (fun W hk hr hs => ?_)
  obtain ⟨Z, hZ, hrz⟩ : ∃ Z : List Value, Z.length = 8 ∧ Row W w.heap.size 0 Z := ⟨_, rfl, hr⟩
  have HR := Lib.hid hrz; have HK := Lib.hid hk
  clear hk hr hrz hs
  go_wp2_with (first | (refine cu_build (by kernel_rfl) 37 _ rfl _ ?_ _ HB.out ?_; focus (simp only [List.map_toArray, List.map_cons, List.map_nil]; rfl)) | (refine wpList_store_row rfl 37 (.tmp 0) (.tmp 1) rfl w.heap.size 0 rfl Z (X.map (Value.int .u32)) rfl HR.out (by rw [List.length_map, hl, hZ]) (by rw [List.length_map, hl]; exact sz_rnum) (int_oneCell _) ?_; intro w9 hr9 hc9; have H9 := Lib.hid hr9; have HC9 := Lib.hid hc9; clear hr9 hc9))
  exact bodyPost_ret (v := .agg (X.map (Value.int .u32)).toArray) (results_cell_at (p := 0) (ty := 37) rfl _ _ w.heap.size 0 _ _ rfl H9.out Try.underlying37 rfl (by rw [List.length_map, hl]; exact sz_rnum)) rfl ⟨rfl, nm_keeps_chg HK.out HC9.out (Nat.le_refl _)⟩
/-- is a number a key? -/
def keyB (x : Int) : Bool := decide (0 < x ∧ x < NV)
theorem keyB_zero {x : Int} (h : x = 0) : keyB x = false := decide_eq_false (by omega)
theorem keyB_pos {x : Int} (h : U256 x) (h0 : ¬ x = 0) : keyB x = decide (x < NV) := by
  have := h.1
  unfold keyB
  by_cases h1 : x < NV
  · rw [decide_eq_true h1, decide_eq_true ⟨by omega, h1⟩]
  · rw [decide_eq_false h1, decide_eq_false (fun h => h1 h.2)]
set_option maxRecDepth 100000 in
set_option maxHeartbeats 1000000 in
theorem rkey_any (x : Int) (hx : U256 x) (w : World) : Calls Try.prog 33 #[.agg ((words8 x).map (Value.int .u32)).toArray] w fun e w' => e = .returned (.bool (keyB x)) ∧ Keeps w w' := by
  have HE := Lib.hid (fun W => rnum_equal x 0 hx ⟨by omega, by decide⟩ W)
  have HLS := Lib.hid (rless8_any x NV hx NV_u256)
  have HN := Lib.hid rn_any
  have hl := words8_length x
  have hb0 := built_rnum0
  have HB0 := Lib.hid hb0
  clear hb0
  generalize words8 x = X at *
  generalize words8 NV = Y at *
  generalize words8 0 = Z at *
  by_cases h0 : x = 0
  · rw [keyB_zero h0]
    rw [decide_eq_true h0] at HE
    clear h0 HLS
    go_enter Try.func33, Try.ntmps33
    go_upto_region 1 with (fail)
    refine cu_rows1 (fun W0 hk hr hs => ?_)
    have HR := Lib.hid (show Row W0 w.heap.size 0 (X.map (Value.int .u32)) from hr); have HK := Lib.hid hk
    clear hk hr hs
    generalize w.heap.size = p at *
    refine wp_region_head (S := fun W => Hid ((fun W' => Keeps W0 W') W)) 7 (by kernel_rfl) (by kernel_rfl) ?_ (fun hHeld => ?_)
    focus exact Lib.hid (keeps_drew1 (Keeps.refl _))
    refine wpAnyHL_take (i := 0) (oi := ?_) (v := ?_) ?_ ?_ ?_ ?_ ?_ ?_ ?_ ?_ ?_ (Or.inl ⟨?_, ?_⟩) ?_ ?_
    rotate_left 2
    focus (simp only [kG]; exact rfl)
    iterate 7 focus kernel_rfl
    focus (exact fun _ _ _ h => h)
    focus rfl
    focus (intro wSw hSw; (have hSw := hSw.out); (refine cu_run_load 37 (.tmp 1) ?_ p 0 ?_ _ _ (HR.out.keeps hSw) Try.underlying37 rfl (by rw [List.length_map, hl]; exact sz_rnum)) <;> rfl)
    focus assumption
    try simp only [kP]
    refine wpAnyHL_take (i := 1) (oi := ?_) (v := ?_) ?_ ?_ ?_ ?_ ?_ ?_ ?_ ?_ ?_ (Or.inl ⟨?_, ?_⟩) ?_ ?_
    rotate_left 2
    focus (simp only [kG]; exact rfl)
    iterate 7 focus kernel_rfl
    focus (exact fun _ _ _ h => h)
    focus rfl
    focus (intro wSw hSw; (have hSw := hSw.out); (refine cu_run_build 37 [] ?_ [] ?_ _ HB0.out) <;> rfl)
    focus assumption
    try simp only [kP]
    refine wpAnyHL_take (i := 2) (oi := ?_) (v := ?_) ?_ ?_ ?_ ?_ ?_ ?_ ?_ ?_ ?_ (Or.inl ⟨?_, ?_⟩) ?_ ?_
    rotate_left 2
    focus (simp only [kG]; exact rfl)
    iterate 7 focus kernel_rfl
    focus (exact fun _ _ _ h => h)
    focus rfl
    focus (intro wSw hSw; (have hSw := hSw.out); (refine cu_run_neq 37 37 (.tmp 3) (.tmp 4) ?_ _ _ ?_ ?_ true HE.out (by kernel_rfl)) <;> rfl)
    focus assumption
    try simp only [kP]
    refine wpAnyHL_take (i := 3) (oi := ?_) (v := ?_) ?_ ?_ ?_ ?_ ?_ ?_ ?_ ?_ ?_ (Or.inl ⟨?_, ?_⟩) ?_ ?_
    rotate_left 2
    focus (simp only [kG]; exact rfl)
    iterate 7 focus kernel_rfl
    focus (exact fun _ _ _ h => h)
    focus rfl
    focus ((intro wSw hSw; (have hSw := hSw.out); (try dsimp only at hSw); go_simp) <;> with_reducible rfl)
    focus assumption
    try simp only [kP]
    refine wpAnyHL_take (i := 4) (oi := ?_) (v := undef) ?_ ?_ ?_ ?_ ?_ ?_ ?_ ?_ ?_ (Or.inr ⟨?_, rfl⟩) ?_ ?_
    rotate_left 1
    focus (simp only [kG]; exact rfl)
    iterate 7 focus kernel_rfl
    focus (exact fun _ _ _ h => h)
    focus rfl
    focus assumption
    try simp only [kP]
    refine wpAnyHL_take (i := 5) (oi := ?_) (v := undef) ?_ ?_ ?_ ?_ ?_ ?_ ?_ ?_ ?_ (Or.inr ⟨?_, rfl⟩) ?_ ?_
    rotate_left 1
    focus (simp only [kG]; exact rfl)
    iterate 7 focus kernel_rfl
    focus (exact fun _ _ _ h => h)
    focus rfl
    focus assumption
    try simp only [kP]
    refine wpAnyHL_take (i := 6) (oi := ?_) (v := undef) ?_ ?_ ?_ ?_ ?_ ?_ ?_ ?_ ?_ (Or.inr ⟨?_, rfl⟩) ?_ ?_
    rotate_left 1
    focus (simp only [kG]; exact rfl)
    iterate 7 focus kernel_rfl
    focus (exact fun _ _ _ h => h)
    focus rfl
    focus assumption
    try simp only [kP]
    refine wpAnyHL_done (by kernel_rfl) ?_
    try simp only [List.drop_succ_cons, List.drop_zero]
    go_wp2
    go_ret
    exact ⟨by first | rfl | exact ret_bool (by simp), HK.out.trans hHeld.out⟩
  · rw [keyB_pos hx h0]
    rw [decide_eq_false h0] at HE
    clear h0
    generalize decide (x < NV) = D at *
    go_enter Try.func33, Try.ntmps33
    go_upto_region 1 with (fail)
    refine cu_rows1 (fun W0 hk hr hs => ?_)
    have HR := Lib.hid (show Row W0 w.heap.size 0 (X.map (Value.int .u32)) from hr); have HK := Lib.hid hk
    clear hk hr hs
    generalize w.heap.size = p at *
    refine wp_region_head (S := fun W => Hid ((fun W' => Keeps W0 W') W)) 7 (by kernel_rfl) (by kernel_rfl) ?_ (fun hHeld => ?_)
    focus exact Lib.hid (keeps_drew1 (Keeps.refl _))
    refine wpAnyHL_take (i := 0) (oi := ?_) (v := ?_) ?_ ?_ ?_ ?_ ?_ ?_ ?_ ?_ ?_ (Or.inl ⟨?_, ?_⟩) ?_ ?_
    rotate_left 2
    focus (simp only [kG]; exact rfl)
    iterate 7 focus kernel_rfl
    focus (exact fun _ _ _ h => h)
    focus rfl
    focus (intro wSw hSw; (have hSw := hSw.out); (refine cu_run_load 37 (.tmp 1) ?_ p 0 ?_ _ _ (HR.out.keeps hSw) Try.underlying37 rfl (by rw [List.length_map, hl]; exact sz_rnum)) <;> rfl)
    focus assumption
    try simp only [kP]
    refine wpAnyHL_take (i := 1) (oi := ?_) (v := ?_) ?_ ?_ ?_ ?_ ?_ ?_ ?_ ?_ ?_ (Or.inl ⟨?_, ?_⟩) ?_ ?_
    rotate_left 2
    focus (simp only [kG]; exact rfl)
    iterate 7 focus kernel_rfl
    focus (exact fun _ _ _ h => h)
    focus rfl
    focus (intro wSw hSw; (have hSw := hSw.out); (refine cu_run_build 37 [] ?_ [] ?_ _ HB0.out) <;> rfl)
    focus assumption
    try simp only [kP]
    refine wpAnyHL_take (i := 2) (oi := ?_) (v := ?_) ?_ ?_ ?_ ?_ ?_ ?_ ?_ ?_ ?_ (Or.inl ⟨?_, ?_⟩) ?_ ?_
    rotate_left 2
    focus (simp only [kG]; exact rfl)
    iterate 7 focus kernel_rfl
    focus (exact fun _ _ _ h => h)
    focus rfl
    focus (intro wSw hSw; (have hSw := hSw.out); (refine cu_run_neq 37 37 (.tmp 3) (.tmp 4) ?_ _ _ ?_ ?_ false HE.out (by kernel_rfl)) <;> rfl)
    focus assumption
    try simp only [kP]
    refine wpAnyHL_take (i := 3) (oi := ?_) (v := ?_) ?_ ?_ ?_ ?_ ?_ ?_ ?_ ?_ ?_ (Or.inl ⟨?_, ?_⟩) ?_ ?_
    rotate_left 2
    focus (simp only [kG]; exact rfl)
    iterate 7 focus kernel_rfl
    focus (exact fun _ _ _ h => h)
    focus rfl
    focus ((intro wSw hSw; (have hSw := hSw.out); (try dsimp only at hSw); go_simp) <;> with_reducible rfl)
    focus assumption
    try simp only [kP]
    refine wpAnyHL_take (i := 4) (oi := ?_) (v := ?_) ?_ ?_ ?_ ?_ ?_ ?_ ?_ ?_ ?_ (Or.inl ⟨?_, ?_⟩) ?_ ?_
    rotate_left 2
    focus (simp only [kG]; exact rfl)
    iterate 7 focus kernel_rfl
    focus (exact fun _ _ _ h => h)
    focus rfl
    focus (intro wSw hSw; (have hSw := hSw.out); (refine cu_run_load 37 (.tmp 1) ?_ p 0 ?_ _ _ (HR.out.keeps hSw) Try.underlying37 rfl (by rw [List.length_map, hl]; exact sz_rnum)) <;> rfl)
    focus assumption
    try simp only [kP]
    refine wpAnyHL_one (i := 5) (o := ?_) (by kernel_rfl) (by kernel_rfl) ?_ ?_
    rotate_left 1
    focus (simp only [kG]; exact rfl)
    go_wp2_with (go_at_call 27; refine (HN.out _).mono ?_; rintro r W5 ⟨rfl, hk5⟩; have HK5 := Lib.hid (hHeld.out.trans hk5); clear hk5)
    try dsimp only [StepQ]
    refine ⟨?_, fun hHeld => ?_⟩
    focus (exact Lib.hid (HK5.out))
    try simp only [kP]
    refine wpAnyHL_one (i := 6) (o := ?_) (by kernel_rfl) (by kernel_rfl) ?_ ?_
    rotate_left 1
    focus (simp only [kG]; exact rfl)
    go_wp2_with (go_at_call 25; refine (HLS.out _).mono ?_; rintro r W6 ⟨rfl, hk6⟩; have HK6 := Lib.hid (hHeld.out.trans hk6); clear hk6)
    try dsimp only [StepQ]
    refine ⟨?_, fun hHeld => ?_⟩
    focus (exact Lib.hid (HK6.out))
    try simp only [kP]
    refine wpAnyHL_done (by kernel_rfl) ?_
    try simp only [List.drop_succ_cons, List.drop_zero]
    go_wp2
    go_ret
    exact ⟨by first | rfl | exact ret_bool (by simp), HK.out.trans hHeld.out⟩
end Go.Proofs.Ytajipagpdphejaa
