/- hash.Sum256, Double, Sum's Twice, and the reference's Double: SHA-256, and twice. | The root over names, in plain Lean; rows of digests in memory. No condition. -/
import Derived.Test.YtclhjlkgmeofcaaDoorGB6
import Derived.Test.YtclhjlkgmeofcaaDoorGB9
import Derived.Test.YtclhjlkgmeofcaaDoorGA2
namespace Go.Proofs.YtclhjlkgmeofcaaDoor
set_option linter.unusedVariables false
set_option linter.unusedSimpArgs false
open Go Go.RowKit

theorem outB_bytes (ws : List Int) : Bytes (hs_outB ws) := by
  intro x hx
  simp only [hs_outB, List.mem_flatMap, List.mem_cons, List.not_mem_nil, or_false] at hx
  obtain ⟨y, _, h⟩ := hx
  unfold Byte
  rcases h with rfl | rfl | rfl | rfl <;> omega
theorem sha_bytes (l : List Int) : Bytes (sha256 l) := outB_bytes _
theorem sha_length (l : List Int) : (sha256 l).length = 32 := outB_length _
theorem sz_hash : (Tryd.prog.info? 24).map (·.size) = some 32 := by kernel_rfl
theorem sz_b32 : (Tryd.prog.info? 23).map (·.size) = some 32 := by kernel_rfl
theorem sumAt_zero {W : World} {p : Nat} (h : Row W p 0 zeroSum) : SumAt W p 0 (.slice none 0 0) [] :=
  ⟨fun x hx => by simp at hx, by simp, ⟨⟨0, 0, 0, 0, 0, 0, 0, 0⟩, false, by unfold St.ok W32; simp, .inr ⟨rfl, rfl⟩, h⟩, Buf.nil _ _, by simp [Value.ownBlock]⟩
def zeros32 : List Value := List.replicate 32 (Value.int .u8 0)
/-- two new blocks: the result's, and a Sum that is nought -/
structure Fresh2 (w W : World) (p q : Nat) : Prop where
  keeps : Keeps w W
  res : Row W p 0 zeros32
  sum : SumAt W q 0 (.slice none 0 0) []
  new : w.heap.size ≤ p ∧ p < q
theorem fresh2 (w : World) (T U : TypeId) : Fresh2 w ((w.alloc (.cells zeros32.toArray T)).alloc (.cells zeroSum.toArray U)) w.heap.size (w.heap.size + 1) :=
  ⟨hs_keeps_alloc (hs_keeps_alloc (Keeps.refl w) _) _, (Row.new _ _ _ rfl).alloc _, by
    have := Row.new (w := w.alloc (.cells zeros32.toArray T)) zeroSum _ U rfl
    rw [World.size_alloc] at this
    exact sumAt_zero this, Nat.le_refl _, by omega⟩
theorem Fresh2.added {w W W' : World} {p q : Nat} {l : List Int} (h : Fresh2 w W p q) (ha : AddPost W W' q 0 (.slice none 0 0) ([] ++ l)) : ∃ wv, Keeps w W' ∧ Row W' p 0 zeros32 ∧ SumAt W' q 0 wv l := by
  obtain ⟨wv, h1, h2, _⟩ := ha
  refine ⟨wv, ?_, h.res.chg h2 ?_, h1⟩
  · exact Below.trans h.keeps (h2.below h.keeps.size (fun k hk e => by
      rcases e with e | e
      · have := h.new; omega
      · simp [Value.ownBlock] at e))
  · rintro (e | e)
    · have := h.new; omega
    · simp [Value.ownBlock] at e
set_option maxRecDepth 100000 in
theorem sum256_any (v : Value) (n : Nat) (zs : List Int) (w : World) (hr : Rd w 1 v n (zs.map (Value.int .u8))) (hz : Bytes zs) (hn : n ≤ 35184372088832) :
    Calls Tryd.prog 73 #[v] w fun e w' => e = .returned (.agg ((sha256 zs).map (Value.int .u8)).toArray) ∧ Keeps w w' := by
  have hzl : zs.length = n := by have := hr.1; simpa using this
  obtain ⟨a, cap, rfl⟩ : ∃ a cap, v = .slice a n cap := by obtain ⟨_, a, cap, h, _⟩ := hr; exact ⟨a, cap, h⟩
  have HR := Lib.hid hr; have HZ := Lib.hid hz; have HL := Lib.hid hzl
  clear hr hz hzl
  go_enter Tryd.func73, Tryd.ntmps73
  go_upto_region 2 with (fail)
  have hf := fresh2 w 24 76
  obtain ⟨q, hq⟩ : ∃ q, q = w.heap.size + 1 := ⟨_, rfl⟩
  obtain ⟨p, hp⟩ : ∃ p, p = w.heap.size := ⟨_, rfl⟩
  rw [← hq, ← hp] at hf ⊢
  have HP := Lib.hid hp
  clear hq hp
  refine wp_gen (fun W => Fresh2 w W p q) hf ?_
  clear hf
  intro W hf
  have HF := Lib.hid hf
  clear hf
  go_upto_region 3 with (go_at_call 30; refine (sum_add q 0 _ [] _ n zs _ HF.out.sum (HR.out.keeps HF.out.keeps) HZ.out (by omega) (by simp; omega) (fun h0 e => by have h1 := HR.out.own_lt h0 q e; have h2 := HF.out.new; have h3 := HP.out; omega)).mono ?_; rintro e W2 ⟨rfl, hA⟩; have HA := Lib.hid hA; clear hA)
  obtain ⟨wv, hk, hr, hs⟩ := HF.out.added HA.out
  have HK := Lib.hid hk; have HRR := Lib.hid hr; have HS := Lib.hid hs
  clear hk hr hs HA
  have Z32 : Hid ((Tryd.prog.info? 24).map (·.size) = some ((sha256 zs).map (Value.int .u8)).length) := by
    rw [List.length_map, sha_length]; exact Lib.hid sz_hash
  go_wp2_with (first | (go_at_call 72; refine (sum_hash q 0 _ zs _ HS.out (by rw [HL.out]; omega)).mono ?_; rintro e W3 ⟨rfl, hk3⟩; have HK3 := Lib.hid hk3; clear hk3) | (refine wpList_store_row rfl 24 (.tmp 2) (.tmp 6) rfl p 0 rfl _ _ rfl (HRR.out.keeps HK3.out) (by simp [zeros32, sha_length]) Z32.out (int_oneCell _) ?_; intro W4 hr4 hc4; have HR4 := Lib.hid hr4; have HC4 := Lib.hid hc4; clear hr4 hc4))
  exact bodyPost_ret (v := .agg ((sha256 zs).map (Value.int .u8)).toArray) (results_cell_at (p := 2) (ty := 24) rfl _ _ p 0 _ _ rfl HR4.out Tryd.underlying24 rfl Z32.out) rfl ⟨rfl, hs_keeps_chg (HK.out.trans HK3.out) HC4.out (by have := HP.out; omega)⟩
/-- behind the first of two digests: a block holds it -/
theorem rd_sha {W : World} {q : Nat} {l : List Int} (h : Row W q 0 ((sha256 l).map (Value.int .u8))) : Rd W 1 (.slice (some ⟨q, 0, none⟩) 32 32) 32 ((sha256 l).map (Value.int .u8)) :=
  Rd.of_row h (by simp [sha_length]) (h.lt (by intro e; have := congrArg List.length e; rw [List.length_map, sha_length] at this; simp at this)) (Nat.le_refl _) (by unfold maxLen; omega)
set_option maxRecDepth 100000 in
theorem twice_any (b o : Nat) (wv : Value) (l : List Int) (w : World) (hs : SumAt w b o wv l) (hsm : l.length < 576460752303423488) :
    Calls Tryd.prog 31 #[.pointer (some ⟨b, o, none⟩)] w fun e w' => e = .returned (.agg ((sha256 (sha256 l)).map (Value.int .u8)).toArray) ∧ Keeps w w' := by
  have HS := Lib.hid hs
  clear hs
  go_enter Tryd.func31, Tryd.ntmps31
  go_upto_region 1 with (fail)
  obtain ⟨p, hp⟩ : ∃ p, p = w.heap.size := ⟨_, rfl⟩
  have hk0 : Keeps w (w.alloc (.cells zeros32.toArray 24)) := hs_keeps_alloc (Keeps.refl w) _
  have hr0 : Row (w.alloc (.cells zeros32.toArray 24)) p 0 zeros32 := by rw [hp]; exact Row.new _ _ _ rfl
  rw [← hp]
  have HP := Lib.hid hp
  clear hp
  refine wp_gen (fun W => Keeps w W ∧ Row W p 0 zeros32) ⟨hk0, hr0⟩ ?_
  clear hk0 hr0
  intro W ⟨hk, hr⟩
  have HK := Lib.hid hk; have HR := Lib.hid hr
  clear hk hr
  have Z1 : Hid ((Tryd.prog.info? 24).map (·.size) = some ((sha256 l).map (Value.int .u8)).length) := by
    rw [List.length_map, sha_length]; exact Lib.hid sz_hash
  have Z2 : Hid ((Tryd.prog.info? 24).map (·.size) = some ((sha256 (sha256 l)).map (Value.int .u8)).length) := by
    rw [List.length_map, sha_length]; exact Lib.hid sz_hash
  have Z0 : Hid (((sha256 l).map (Value.int .u8)).length = (List.replicate 32 (Value.int .u8 0)).length) := by
    rw [List.length_map, sha_length]; exact Lib.hid rfl
  go_upto_region 2 with (first | (go_at_call 72; refine (sum_hash b o _ l _ (HS.out.keeps HK.out) hsm).mono ?_; rintro e W3 ⟨rfl, hk3⟩; have HK3 := Lib.hid hk3; clear hk3) | (refine wpList_store_row rfl 24 (.tmp 3) (.tmp 5) rfl W3.heap.size 0 rfl (List.replicate 32 (Value.int .u8 0)) _ rfl (Row.new _ _ _ rfl) Z0.out Z1.out (int_oneCell _) ?_; intro W4 hr4 hc4; have HR4 := Lib.hid hr4; have HC4 := Lib.hid hc4; clear hr4 hc4))
  have hk4 : Keeps w W4 := hs_keeps_chg (hs_keeps_alloc (HK.out.trans HK3.out) _) HC4.out (HK.out.trans HK3.out).size
  have hp4 : Row W4 p 0 zeros32 := ((HR.out.keeps HK3.out).alloc _).chg HC4.out (by have h1 := HR.out.lt (by simp [zeros32]); have h2 := HK3.out.size; omega)
  have HK4 := Lib.hid hk4; have HP4 := Lib.hid hp4
  clear hk4 hp4 HC4 HR
  go_wp2_with (first | (go_at_call 73; refine (sum256_any _ 32 (sha256 l) _ (rd_sha HR4.out) (sha_bytes l) (by omega)).mono ?_; rintro e W5 ⟨rfl, hk5⟩; have HK5 := Lib.hid hk5; clear hk5) | (refine wpList_store_row rfl 24 (.tmp 2) (.tmp 7) rfl p 0 rfl _ _ rfl (HP4.out.keeps HK5.out) (by simp [zeros32, sha_length]) Z2.out (int_oneCell _) ?_; intro W6 hr6 hc6; have HR6 := Lib.hid hr6; have HC6 := Lib.hid hc6; clear hr6 hc6))
  exact bodyPost_ret (v := .agg ((sha256 (sha256 l)).map (Value.int .u8)).toArray) (results_cell_at (p := 2) (ty := 24) rfl _ _ p 0 _ _ rfl HR6.out Tryd.underlying24 rfl Z2.out) rfl ⟨rfl, hs_keeps_chg (HK4.out.trans HK5.out) HC6.out (by have := HP.out; omega)⟩
set_option maxRecDepth 100000 in
theorem double_any (v : Value) (n : Nat) (zs : List Int) (w : World) (hr : Rd w 1 v n (zs.map (Value.int .u8))) (hz : Bytes zs) (hn : n ≤ 35184372088832) :
    Calls Tryd.prog 75 #[v] w fun e w' => e = .returned (.agg ((sha256 (sha256 zs)).map (Value.int .u8)).toArray) ∧ Keeps w w' := by
  have hzl : zs.length = n := by have := hr.1; simpa using this
  obtain ⟨a, cap, rfl⟩ : ∃ a cap, v = .slice a n cap := by obtain ⟨_, a, cap, h, _⟩ := hr; exact ⟨a, cap, h⟩
  have HR := Lib.hid hr; have HZ := Lib.hid hz; have HL := Lib.hid hzl
  clear hr hz hzl
  go_enter Tryd.func75, Tryd.ntmps75
  go_upto_region 2 with (fail)
  have hf := fresh2 w 24 76
  obtain ⟨q, hq⟩ : ∃ q, q = w.heap.size + 1 := ⟨_, rfl⟩
  obtain ⟨p, hp⟩ : ∃ p, p = w.heap.size := ⟨_, rfl⟩
  rw [← hq, ← hp] at hf ⊢
  have HP := Lib.hid hp
  clear hq hp
  refine wp_gen (fun W => Fresh2 w W p q) hf ?_
  clear hf
  intro W hf
  have HF := Lib.hid hf
  clear hf
  go_upto_region 3 with (go_at_call 30; refine (sum_add q 0 _ [] _ n zs _ HF.out.sum (HR.out.keeps HF.out.keeps) HZ.out (by omega) (by simp; omega) (fun h0 e => by have h1 := HR.out.own_lt h0 q e; have h2 := HF.out.new; have h3 := HP.out; omega)).mono ?_; rintro e W2 ⟨rfl, hA⟩; have HA := Lib.hid hA; clear hA)
  obtain ⟨wv, hk, hr, hs⟩ := HF.out.added HA.out
  have HK := Lib.hid hk; have HRR := Lib.hid hr; have HS := Lib.hid hs
  clear hk hr hs HA
  have Z32 : Hid ((Tryd.prog.info? 24).map (·.size) = some ((sha256 (sha256 zs)).map (Value.int .u8)).length) := by
    rw [List.length_map, sha_length]; exact Lib.hid sz_hash
  go_wp2_with (first | (go_at_call 31; refine (twice_any q 0 _ zs _ HS.out (by rw [HL.out]; omega)).mono ?_; rintro e W3 ⟨rfl, hk3⟩; have HK3 := Lib.hid hk3; clear hk3) | (refine wpList_store_row rfl 24 (.tmp 2) (.tmp 6) rfl p 0 rfl _ _ rfl (HRR.out.keeps HK3.out) (by simp [zeros32, sha_length]) Z32.out (int_oneCell _) ?_; intro W4 hr4 hc4; have HR4 := Lib.hid hr4; have HC4 := Lib.hid hc4; clear hr4 hc4))
  exact bodyPost_ret (v := .agg ((sha256 (sha256 zs)).map (Value.int .u8)).toArray) (results_cell_at (p := 2) (ty := 24) rfl _ _ p 0 _ _ rfl HR4.out Tryd.underlying24 rfl Z32.out) rfl ⟨rfl, hs_keeps_chg (HK.out.trans HK3.out) HC4.out (by have := HP.out; omega)⟩
set_option maxRecDepth 100000 in
theorem ref_double (v : Value) (n : Nat) (l : List Int) (w : World) (hr : Rd w 1 v n (l.map (Value.int .u8))) (hz : Bytes l) (hn : n ≤ 35184372088832) :
    Calls Tryd.prog 32 #[v] w fun e w' => e = .returned (.agg ((sha256 (sha256 l)).map (Value.int .u8)).toArray) ∧ Keeps w w' := by
  obtain ⟨a, cap, rfl⟩ : ∃ a cap, v = .slice a n cap := by obtain ⟨_, a, cap, h, _⟩ := hr; exact ⟨a, cap, h⟩
  have HS := Lib.hid hr; have HZ := Lib.hid hz
  clear hr hz
  go_enter Tryd.func32, Tryd.ntmps32
  go_upto_region 1 with (fail)
  obtain ⟨p, hp⟩ : ∃ p, p = w.heap.size := ⟨_, rfl⟩
  have hk0 : Keeps w (w.alloc (.cells zeros32.toArray 23)) := hs_keeps_alloc (Keeps.refl w) _
  have hr0 : Row (w.alloc (.cells zeros32.toArray 23)) p 0 zeros32 := by rw [hp]; exact Row.new _ _ _ rfl
  rw [← hp]
  have HP := Lib.hid hp
  clear hp
  refine wp_gen (fun W => Keeps w W ∧ Row W p 0 zeros32) ⟨hk0, hr0⟩ ?_
  clear hk0 hr0
  intro W ⟨hk, hr⟩
  have HK := Lib.hid hk; have HR := Lib.hid hr
  clear hk hr
  have Z1 : Hid ((Tryd.prog.info? 23).map (·.size) = some ((sha256 l).map (Value.int .u8)).length) := by
    rw [List.length_map, sha_length]; exact Lib.hid sz_b32
  have Z2 : Hid ((Tryd.prog.info? 23).map (·.size) = some ((sha256 (sha256 l)).map (Value.int .u8)).length) := by
    rw [List.length_map, sha_length]; exact Lib.hid sz_b32
  have Z0 : Hid (((sha256 l).map (Value.int .u8)).length = (List.replicate 32 (Value.int .u8 0)).length) := by
    rw [List.length_map, sha_length]; exact Lib.hid rfl
  go_upto_region 2 with (first | (go_at_call 74; refine (ref_sum256 _ n l _ (HS.out.keeps HK.out) HZ.out hn).mono ?_; rintro e W3 ⟨rfl, hk3⟩; have HK3 := Lib.hid hk3; clear hk3) | (refine wpList_store_row rfl 23 (.tmp 3) (.tmp 5) rfl W3.heap.size 0 rfl (List.replicate 32 (Value.int .u8 0)) _ rfl (Row.new _ _ _ rfl) Z0.out Z1.out (int_oneCell _) ?_; intro W4 hr4 hc4; have HR4 := Lib.hid hr4; have HC4 := Lib.hid hc4; clear hr4 hc4))
  have hk4 : Keeps w W4 := hs_keeps_chg (hs_keeps_alloc (HK.out.trans HK3.out) _) HC4.out (HK.out.trans HK3.out).size
  have hp4 : Row W4 p 0 zeros32 := ((HR.out.keeps HK3.out).alloc _).chg HC4.out (by have h1 := HR.out.lt (by simp [zeros32]); have h2 := HK3.out.size; omega)
  have HK4 := Lib.hid hk4; have HP4 := Lib.hid hp4
  clear hk4 hp4 HC4 HR
  go_wp2_with (first | (go_at_call 74; refine (ref_sum256 _ 32 (sha256 l) _ (rd_sha HR4.out) (sha_bytes l) (by omega)).mono ?_; rintro e W5 ⟨rfl, hk5⟩; have HK5 := Lib.hid hk5; clear hk5) | (refine wpList_store_row rfl 23 (.tmp 2) (.tmp 7) rfl p 0 rfl _ _ rfl (HP4.out.keeps HK5.out) (by simp [zeros32, sha_length]) Z2.out (int_oneCell _) ?_; intro W6 hr6 hc6; have HR6 := Lib.hid hr6; have HC6 := Lib.hid hc6; clear hr6 hc6))
  exact bodyPost_ret (v := .agg ((sha256 (sha256 l)).map (Value.int .u8)).toArray) (results_cell_at (p := 2) (ty := 23) rfl _ _ p 0 _ _ rfl HR6.out Tryd.underlying23 rfl Z2.out) rfl ⟨rfl, hs_keeps_chg (HK4.out.trans HK5.out) HC6.out (by have := HP.out; omega)⟩
end Go.Proofs.YtclhjlkgmeofcaaDoor
namespace Go.Proofs.YtclhjlkgmeofcaaDoor
set_option linter.unusedVariables false
set_option linter.unusedSimpArgs false
open Go Go.RowKit

def dsha (l : List Int) : List Int := sha256 (sha256 l)
theorem dsha_length (l : List Int) : (dsha l).length = 32 := sha_length _
theorem dsha_bytes (l : List Int) : Bytes (dsha l) := sha_bytes _
/-- the k-th pair's digest -/
def pairD (l : List (List Int)) (k : Nat) : List Int := dsha (l.getD (2 * k) [] ++ l.getD (min (2 * k + 1) (l.length - 1)) [])
def upD (l : List (List Int)) : List (List Int) := (List.range ((l.length + 1) / 2)).map (pairD l)
theorem upD_length (l : List (List Int)) : (upD l).length = (l.length + 1) / 2 := by simp [upD]
def zeroH : List Int := List.replicate 32 0
def merkN : Nat → List (List Int) → List Int
  | 0, l => l.headD zeroH
  | n + 1, l => if l.length ≤ 1 then l.headD zeroH else merkN n (upD l)
theorem merkN_small (n : Nat) (l : List (List Int)) (h : l.length ≤ 1) : merkN n l = l.headD zeroH := by
  cases n with
  | zero => rfl
  | succ n => rw [merkN, if_pos h]
theorem merkN_eq : ∀ (n m : Nat) (l : List (List Int)), l.length ≤ n → l.length ≤ m → merkN n l = merkN m l
  | 0, m, l, h, _ => by rw [merkN_small 0 l (by omega), merkN_small m l (by omega)]
  | n + 1, 0, l, _, h => by rw [merkN_small _ l (by omega), merkN_small 0 l (by omega)]
  | n + 1, m + 1, l, h1, h2 => by
    by_cases h : l.length ≤ 1
    · rw [merkN_small _ l h, merkN_small _ l h]
    · rw [merkN, merkN, if_neg h, if_neg h]
      exact merkN_eq n m (upD l) (by rw [upD_length]; omega) (by rw [upD_length]; omega)
def merkD (l : List (List Int)) : List Int := merkN l.length l
theorem merkD_small (l : List (List Int)) (h : l.length ≤ 1) : merkD l = l.headD zeroH := merkN_small _ l h
theorem merkD_up (l : List (List Int)) (h : ¬ l.length ≤ 1) : merkD l = merkD (upD l) := by
  unfold merkD
  have e : l.length = (l.length - 1) + 1 := by omega
  rw [e, merkN, if_neg h]
  exact merkN_eq _ _ _ (by rw [upD_length]; omega) (Nat.le_refl _)
def HsOk (l : List (List Int)) : Prop := ∀ h ∈ l, h.length = 32 ∧ Bytes h
theorem HsOk.getD {l : List (List Int)} (h : HsOk l) {i : Nat} (hi : i < l.length) : (l.getD i []).length = 32 ∧ Bytes (l.getD i []) := by
  have : l.getD i [] = l[i] := by simp [List.getD, hi]
  rw [this]; exact h _ (List.getElem_mem hi)
theorem HsOk.snoc {l : List (List Int)} (h : HsOk l) {x : List Int} (hl : x.length = 32) (hb : Bytes x) : HsOk (l ++ [x]) := fun y hy => by
  rcases List.mem_append.1 hy with hy | hy
  · exact h y hy
  · simp at hy; rw [hy]; exact ⟨hl, hb⟩
theorem HsOk.take {l : List (List Int)} (h : HsOk l) (n : Nat) : HsOk (l.take n) := fun y hy => h y (List.mem_of_mem_take hy)
theorem upD_ok (l : List (List Int)) : HsOk (upD l) := fun y hy => by
  unfold upD at hy
  obtain ⟨k, _, rfl⟩ := List.mem_map.1 hy
  exact ⟨dsha_length _, dsha_bytes _⟩
theorem zeroH_ok : zeroH.length = 32 ∧ Bytes zeroH := ⟨rfl, by unfold Bytes Byte zeroH; decide⟩
theorem merkN_ok : ∀ (n : Nat) (l : List (List Int)), HsOk l → (merkN n l).length = 32 ∧ Bytes (merkN n l)
  | 0, l, h => by
    cases l with
    | nil => exact zeroH_ok
    | cons a r => exact h a (by simp)
  | n + 1, l, h => by
    by_cases hl : l.length ≤ 1
    · rw [merkN_small _ l hl]
      cases l with
      | nil => exact zeroH_ok
      | cons a r => exact h a (by simp)
    · rw [merkN, if_neg hl]
      exact merkN_ok n _ (upD_ok l)
theorem merkD_ok (l : List (List Int)) (h : HsOk l) : (merkD l).length = 32 ∧ Bytes (merkD l) := merkN_ok _ l h
/-- the cells of a row of digests -/
def hCells (l : List (List Int)) : List Value := l.flatMap (fun h => h.map (Value.int .u8))
theorem hCells_length : ∀ {l : List (List Int)}, HsOk l → (hCells l).length = l.length * 32
  | [], _ => rfl
  | a :: r, h => by
    have e : hCells (a :: r) = a.map (Value.int .u8) ++ hCells r := rfl
    rw [e, List.length_append, hCells_length (l := r) (fun y hy => h y (by simp [hy])), List.length_map, (h a (by simp)).1, List.length_cons]
    omega
theorem hCells_app (a b : List (List Int)) : hCells (a ++ b) = hCells a ++ hCells b := by simp [hCells]
theorem hCells_one : ∀ (l : List (List Int)), ∀ u ∈ hCells l, u.oneCell' = true := fun l u hu => by
  unfold hCells at hu
  obtain ⟨h, _, hm⟩ := List.mem_flatMap.1 hu
  obtain ⟨x, _, rfl⟩ := List.mem_map.1 hm
  rfl
theorem hCells_at : ∀ {l : List (List Int)}, HsOk l → ∀ {i : Nat}, i < l.length → ((hCells l).drop (i * 32)).take 32 = (l.getD i []).map (Value.int .u8)
  | a :: r, h, 0, _ => by
    have e : hCells (a :: r) = a.map (Value.int .u8) ++ hCells r := rfl
    have hl := (h a (by simp)).1
    rw [e, Nat.zero_mul, List.drop_zero, List.take_append_of_le_length (by simp [hl]), List.take_of_length_le (by simp [hl])]
    rfl
  | a :: r, h, i + 1, hi => by
    have e : hCells (a :: r) = a.map (Value.int .u8) ++ hCells r := rfl
    have hl := (h a (by simp)).1
    have hi' : i < r.length := by simpa using hi
    rw [e, show (i + 1) * 32 = 32 + i * 32 by omega, ← List.drop_drop, List.drop_left' (by simp [hl]), hCells_at (l := r) (fun y hy => h y (by simp [hy])) hi']
    rfl
theorem hCells_take {l : List (List Int)} (h : HsOk l) (n : Nat) (hn : n ≤ l.length) : (hCells l).take (n * 32) = hCells (l.take n) := by
  have e : hCells l = hCells (l.take n) ++ hCells (l.drop n) := by rw [← hCells_app, List.take_append_drop]
  have h2 := hCells_length (h.take n)
  rw [e, List.take_append_of_le_length (by rw [h2]; simp; omega), List.take_of_length_le (by rw [h2, List.length_take]; omega)]
/-- a slice of digests that may be read -/
structure RH (w : World) (v : Value) (l : List (List Int)) : Prop where
  rd : Rd w 32 v l.length (hCells l)
  ok : HsOk l
  small : l.length * 32 ≤ 140737488355328
theorem RH.keeps {w w' : World} {v : Value} {l : List (List Int)} (h : RH w v l) (hk : Keeps w w') : RH w' v l := ⟨h.rd.keeps hk, h.ok, h.small⟩
theorem RH.any {w : World} {v : Value} {l : List (List Int)} (h : RH w v l) : ∃ a cap, v = .slice a l.length cap ∧ l.length ≤ cap ∧ cap ≤ maxLen := by
  obtain ⟨_, a, cap, h1, h2, h3, _⟩ := h.rd
  exact ⟨a, cap, h1, h2, h3⟩
theorem RH.at {w : World} {a : Option Addr} {n cap : Nat} {l : List (List Int)} (h : RH w (.slice a n cap) l) {i : Nat} (hi : i < l.length) :
    ∃ g off, a = some ⟨g, off, none⟩ ∧ g < w.heap.size ∧ Row w g (off + i * 32) ((l.getD i []).map (Value.int .u8)) := by
  obtain ⟨h0, a', cap', e, h2, h3, h4, h5⟩ := h.rd
  cases e
  cases a with
  | none => have := h4 rfl; omega
  | some ad =>
    obtain ⟨g, off, rfl, hg, hr⟩ := h5 _ rfl (by omega)
    refine ⟨g, off, rfl, hg, ?_⟩
    rw [← hCells_at h.ok hi]
    exact (hr.drop (i * 32)).take 32
theorem RH.take {w : World} {a : Option Addr} {n cap : Nat} {l : List (List Int)} (h : RH w (.slice a n cap) l) (m : Nat) (hm : m ≤ l.length) : RH w (.slice a m cap) (l.take m) := by
  obtain ⟨h0, a', cap', e, h2, h3, h4, h5⟩ := h.rd
  cases e
  have hl : (l.take m).length = m := by simp; omega
  refine ⟨⟨by rw [hCells_length (h.ok.take m)], a, cap, by rw [hl], by omega, h3, fun e => by have := h4 e; omega, fun ad e hn => ?_⟩, h.ok.take m, by rw [hl]; have := h.small; omega⟩
  obtain ⟨g, off, e2, hg, hr⟩ := h5 ad e (by omega)
  exact ⟨g, off, e2, hg, by rw [← hCells_take h.ok m hm]; exact hr.take _⟩
/-- a list of digests of one's own -/
structure OwnH (w W : World) (v : Value) (l : List (List Int)) : Prop where
  keeps : Keeps w W
  buf : Buf W 32 v l.length (hCells l)
  new : ∀ g, v.ownBlock = some g → w.heap.size ≤ g
  ok : HsOk l
theorem OwnH.nil (w : World) : OwnH w w (.slice none 0 0) [] := ⟨Keeps.refl _, Buf.nil _ _, fun g h => by simp [Value.ownBlock] at h, fun y hy => by cases hy⟩
theorem OwnH.step {w W W' : World} {v : Value} {l : List (List Int)} (h : OwnH w W v l) (hk : Keeps W W') : OwnH w W' v l := ⟨h.keeps.trans hk, h.buf.keeps hk, h.new, h.ok⟩
theorem OwnH.any {w W : World} {v : Value} {l : List (List Int)} (h : OwnH w W v l) : ∃ a cap, v = .slice a l.length cap := by
  obtain ⟨a, cap, h1, _⟩ := h.buf.any
  exact ⟨a, cap, h1⟩
theorem OwnH.rh {w W : World} {v : Value} {l : List (List Int)} (h : OwnH w W v l) (hs : l.length * 32 ≤ 140737488355328) : RH W v l := ⟨h.buf.rd, h.ok, hs⟩
theorem OwnH.after {w W W1 w2 : World} {v v' : Value} {l : List (List Int)} {x : List Int} (h : OwnH w W v l) (hk : Keeps W W1) (hl : x.length = 32) (hx : Bytes x) (hb : Buf w2 32 v' (l.length + 1) (hCells l ++ x.map (Value.int .u8)))
    (hc : Chg (fun k => v.ownBlock = some k) W1 w2) (hs : SameOrNew W1 v v') : OwnH w w2 v' (l ++ [x]) := by
  have hk1 := h.keeps.trans hk
  refine ⟨Below.trans hk1 (hc.below hk1.size (fun k hk2 e => by have := h.new k e; omega)), ?_, ?_, h.ok.snoc hl hx⟩
  · rw [hCells_app, List.length_append]
    have e : hCells [x] = x.map (Value.int .u8) := by simp [hCells]
    rw [e]; exact hb
  · intro g hg
    rcases hs with e | ⟨g', e1, e2⟩
    · exact h.new g (by rw [← e]; exact hg)
    · rw [hg] at e1; cases e1; exact Nat.le_trans hk1.size e2
end Go.Proofs.YtclhjlkgmeofcaaDoor
