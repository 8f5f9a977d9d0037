/- hash.Sum256, Double, Sum's Twice, and the reference's Double: SHA-256, and twice. -/
import Derived.Test.YtjfkkdkmpnpmpaaSumHash
import Derived.Test.YtjfkkdkmpnpmpaaRefSum
namespace Go.Proofs.Ytjfkkdkmpnpmpaa
set_option linter.unusedVariables false
set_option linter.unusedSimpArgs false
open Go Go.RowKit

theorem outB_bytes (ws : List Int) : Bytes (hs_outB ws) := by
  intro x hx
  simp only [hs_outB, List.mem_flatMap, List.mem_cons, List.not_mem_nil, or_false] at hx
  obtain ⟨y, _, h⟩ := hx
  unfold Byte
  rcases h with rfl | rfl | rfl | rfl <;> omega
theorem sha_bytes (l : List Int) : Bytes (sha256 l) := outB_bytes _
theorem sha_length (l : List Int) : (sha256 l).length = 32 := outB_length _
theorem sz_hash : (Try.prog.info? 36).map (·.size) = some 32 := by kernel_rfl
theorem sz_b32 : (Try.prog.info? 35).map (·.size) = some 32 := by kernel_rfl
theorem sumAt_zero {W : World} {p : Nat} (h : Row W p 0 zeroSum) : SumAt W p 0 (.slice none 0 0) [] :=
  ⟨fun x hx => by simp at hx, by simp, ⟨⟨0, 0, 0, 0, 0, 0, 0, 0⟩, false, by unfold St.ok W32; simp, .inr ⟨rfl, rfl⟩, h⟩, Buf.nil _ _, by simp [Value.ownBlock]⟩
def zeros32 : List Value := List.replicate 32 (Value.int .u8 0)
/-- two new blocks: the result's, and a Sum that is nought -/
structure Fresh2 (w W : World) (p q : Nat) : Prop where
  keeps : Keeps w W
  res : Row W p 0 zeros32
  sum : SumAt W q 0 (.slice none 0 0) []
  new : w.heap.size ≤ p ∧ p < q
theorem fresh2 (w : World) (T U : TypeId) : Fresh2 w ((w.alloc (.cells zeros32.toArray T)).alloc (.cells zeroSum.toArray U)) w.heap.size (w.heap.size + 1) :=
  ⟨hs_keeps_alloc (hs_keeps_alloc (Keeps.refl w) _) _, (Row.new _ _ _ rfl).alloc _, by
    have := Row.new (w := w.alloc (.cells zeros32.toArray T)) zeroSum _ U rfl
    rw [World.size_alloc] at this
    exact sumAt_zero this, Nat.le_refl _, by omega⟩
theorem Fresh2.added {w W W' : World} {p q : Nat} {l : List Int} (h : Fresh2 w W p q) (ha : AddPost W W' q 0 (.slice none 0 0) ([] ++ l)) : ∃ wv, Keeps w W' ∧ Row W' p 0 zeros32 ∧ SumAt W' q 0 wv l := by
  obtain ⟨wv, h1, h2, _⟩ := ha
  refine ⟨wv, ?_, h.res.chg h2 ?_, h1⟩
  · exact Below.trans h.keeps (h2.below h.keeps.size (fun k hk e => by
      rcases e with e | e
      · have := h.new; omega
      · simp [Value.ownBlock] at e))
  · rintro (e | e)
    · have := h.new; omega
    · simp [Value.ownBlock] at e
set_option maxRecDepth 100000 in
theorem sum256_any (v : Value) (n : Nat) (zs : List Int) (w : World) (hr : Rd w 1 v n (zs.map (Value.int .u8))) (hz : Bytes zs) (hn : n ≤ 35184372088832) :
    Calls Try.prog 102 #[v] w fun e w' => e = .returned (.agg ((sha256 zs).map (Value.int .u8)).toArray) ∧ Keeps w w' := by
  have hzl : zs.length = n := by have := hr.1; simpa using this
  obtain ⟨a, cap, rfl⟩ : ∃ a cap, v = .slice a n cap := by obtain ⟨_, a, cap, h, _⟩ := hr; exact ⟨a, cap, h⟩
  have HR := Lib.hid hr; have HZ := Lib.hid hz; have HL := Lib.hid hzl
  clear hr hz hzl
  go_enter Try.func102, Try.ntmps102
  go_upto_region 2 with (fail)
  have hf := fresh2 w 36 105
  obtain ⟨q, hq⟩ : ∃ q, q = w.heap.size + 1 := ⟨_, rfl⟩
  obtain ⟨p, hp⟩ : ∃ p, p = w.heap.size := ⟨_, rfl⟩
  rw [← hq, ← hp] at hf ⊢
  have HP := Lib.hid hp
  clear hq hp
  refine wp_gen (fun W => Fresh2 w W p q) hf ?_
  clear hf
  intro W hf
  have HF := Lib.hid hf
  clear hf
  go_upto_region 3 with (go_at_call 76; refine (sum_add q 0 _ [] _ n zs _ HF.out.sum (HR.out.keeps HF.out.keeps) HZ.out (by omega) (by simp; omega) (fun h0 e => by have h1 := HR.out.own_lt h0 q e; have h2 := HF.out.new; have h3 := HP.out; omega)).mono ?_; rintro e W2 ⟨rfl, hA⟩; have HA := Lib.hid hA; clear hA)
  obtain ⟨wv, hk, hr, hs⟩ := HF.out.added HA.out
  have HK := Lib.hid hk; have HRR := Lib.hid hr; have HS := Lib.hid hs
  clear hk hr hs HA
  have Z32 : Hid ((Try.prog.info? 36).map (·.size) = some ((sha256 zs).map (Value.int .u8)).length) := by
    rw [List.length_map, sha_length]; exact Lib.hid sz_hash
  go_wp2_with (first | (go_at_call 101; refine (sum_hash q 0 _ zs _ HS.out (by rw [HL.out]; omega)).mono ?_; rintro e W3 ⟨rfl, hk3⟩; have HK3 := Lib.hid hk3; clear hk3) | (refine wpList_store_row rfl 36 (.tmp 2) (.tmp 6) rfl p 0 rfl _ _ rfl (HRR.out.keeps HK3.out) (by simp [zeros32, sha_length]) Z32.out (int_oneCell _) ?_; intro W4 hr4 hc4; have HR4 := Lib.hid hr4; have HC4 := Lib.hid hc4; clear hr4 hc4))
  exact bodyPost_ret (v := .agg ((sha256 zs).map (Value.int .u8)).toArray) (results_cell_at (p := 2) (ty := 36) rfl _ _ p 0 _ _ rfl HR4.out Try.underlying36 rfl Z32.out) rfl ⟨rfl, hs_keeps_chg (HK.out.trans HK3.out) HC4.out (by have := HP.out; omega)⟩
/-- behind the first of two digests: a block holds it -/
theorem rd_sha {W : World} {q : Nat} {l : List Int} (h : Row W q 0 ((sha256 l).map (Value.int .u8))) : Rd W 1 (.slice (some ⟨q, 0, none⟩) 32 32) 32 ((sha256 l).map (Value.int .u8)) :=
  Rd.of_row h (by simp [sha_length]) (h.lt (by intro e; have := congrArg List.length e; rw [List.length_map, sha_length] at this; simp at this)) (Nat.le_refl _) (by unfold maxLen; omega)
set_option maxRecDepth 100000 in
theorem twice_any (b o : Nat) (wv : Value) (l : List Int) (w : World) (hs : SumAt w b o wv l) (hsm : l.length < 576460752303423488) :
    Calls Try.prog 77 #[.pointer (some ⟨b, o, none⟩)] w fun e w' => e = .returned (.agg ((sha256 (sha256 l)).map (Value.int .u8)).toArray) ∧ Keeps w w' := by
  have HS := Lib.hid hs
  clear hs
  go_enter Try.func77, Try.ntmps77
  go_upto_region 1 with (fail)
  obtain ⟨p, hp⟩ : ∃ p, p = w.heap.size := ⟨_, rfl⟩
  have hk0 : Keeps w (w.alloc (.cells zeros32.toArray 36)) := hs_keeps_alloc (Keeps.refl w) _
  have hr0 : Row (w.alloc (.cells zeros32.toArray 36)) p 0 zeros32 := by rw [hp]; exact Row.new _ _ _ rfl
  rw [← hp]
  have HP := Lib.hid hp
  clear hp
  refine wp_gen (fun W => Keeps w W ∧ Row W p 0 zeros32) ⟨hk0, hr0⟩ ?_
  clear hk0 hr0
  intro W ⟨hk, hr⟩
  have HK := Lib.hid hk; have HR := Lib.hid hr
  clear hk hr
  have Z1 : Hid ((Try.prog.info? 36).map (·.size) = some ((sha256 l).map (Value.int .u8)).length) := by
    rw [List.length_map, sha_length]; exact Lib.hid sz_hash
  have Z2 : Hid ((Try.prog.info? 36).map (·.size) = some ((sha256 (sha256 l)).map (Value.int .u8)).length) := by
    rw [List.length_map, sha_length]; exact Lib.hid sz_hash
  have Z0 : Hid (((sha256 l).map (Value.int .u8)).length = (List.replicate 32 (Value.int .u8 0)).length) := by
    rw [List.length_map, sha_length]; exact Lib.hid rfl
  go_upto_region 2 with (first | (go_at_call 101; refine (sum_hash b o _ l _ (HS.out.keeps HK.out) hsm).mono ?_; rintro e W3 ⟨rfl, hk3⟩; have HK3 := Lib.hid hk3; clear hk3) | (refine wpList_store_row rfl 36 (.tmp 3) (.tmp 5) rfl W3.heap.size 0 rfl (List.replicate 32 (Value.int .u8 0)) _ rfl (Row.new _ _ _ rfl) Z0.out Z1.out (int_oneCell _) ?_; intro W4 hr4 hc4; have HR4 := Lib.hid hr4; have HC4 := Lib.hid hc4; clear hr4 hc4))
  have hk4 : Keeps w W4 := hs_keeps_chg (hs_keeps_alloc (HK.out.trans HK3.out) _) HC4.out (HK.out.trans HK3.out).size
  have hp4 : Row W4 p 0 zeros32 := ((HR.out.keeps HK3.out).alloc _).chg HC4.out (by have h1 := HR.out.lt (by simp [zeros32]); have h2 := HK3.out.size; omega)
  have HK4 := Lib.hid hk4; have HP4 := Lib.hid hp4
  clear hk4 hp4 HC4 HR
  go_wp2_with (first | (go_at_call 102; refine (sum256_any _ 32 (sha256 l) _ (rd_sha HR4.out) (sha_bytes l) (by omega)).mono ?_; rintro e W5 ⟨rfl, hk5⟩; have HK5 := Lib.hid hk5; clear hk5) | (refine wpList_store_row rfl 36 (.tmp 2) (.tmp 7) rfl p 0 rfl _ _ rfl (HP4.out.keeps HK5.out) (by simp [zeros32, sha_length]) Z2.out (int_oneCell _) ?_; intro W6 hr6 hc6; have HR6 := Lib.hid hr6; have HC6 := Lib.hid hc6; clear hr6 hc6))
  exact bodyPost_ret (v := .agg ((sha256 (sha256 l)).map (Value.int .u8)).toArray) (results_cell_at (p := 2) (ty := 36) rfl _ _ p 0 _ _ rfl HR6.out Try.underlying36 rfl Z2.out) rfl ⟨rfl, hs_keeps_chg (HK4.out.trans HK5.out) HC6.out (by have := HP.out; omega)⟩
set_option maxRecDepth 100000 in
theorem double_any (v : Value) (n : Nat) (zs : List Int) (w : World) (hr : Rd w 1 v n (zs.map (Value.int .u8))) (hz : Bytes zs) (hn : n ≤ 35184372088832) :
    Calls Try.prog 56 #[v] w fun e w' => e = .returned (.agg ((sha256 (sha256 zs)).map (Value.int .u8)).toArray) ∧ Keeps w w' := by
  have hzl : zs.length = n := by have := hr.1; simpa using this
  obtain ⟨a, cap, rfl⟩ : ∃ a cap, v = .slice a n cap := by obtain ⟨_, a, cap, h, _⟩ := hr; exact ⟨a, cap, h⟩
  have HR := Lib.hid hr; have HZ := Lib.hid hz; have HL := Lib.hid hzl
  clear hr hz hzl
  go_enter Try.func56, Try.ntmps56
  go_upto_region 2 with (fail)
  have hf := fresh2 w 36 105
  obtain ⟨q, hq⟩ : ∃ q, q = w.heap.size + 1 := ⟨_, rfl⟩
  obtain ⟨p, hp⟩ : ∃ p, p = w.heap.size := ⟨_, rfl⟩
  rw [← hq, ← hp] at hf ⊢
  have HP := Lib.hid hp
  clear hq hp
  refine wp_gen (fun W => Fresh2 w W p q) hf ?_
  clear hf
  intro W hf
  have HF := Lib.hid hf
  clear hf
  go_upto_region 3 with (go_at_call 76; refine (sum_add q 0 _ [] _ n zs _ HF.out.sum (HR.out.keeps HF.out.keeps) HZ.out (by omega) (by simp; omega) (fun h0 e => by have h1 := HR.out.own_lt h0 q e; have h2 := HF.out.new; have h3 := HP.out; omega)).mono ?_; rintro e W2 ⟨rfl, hA⟩; have HA := Lib.hid hA; clear hA)
  obtain ⟨wv, hk, hr, hs⟩ := HF.out.added HA.out
  have HK := Lib.hid hk; have HRR := Lib.hid hr; have HS := Lib.hid hs
  clear hk hr hs HA
  have Z32 : Hid ((Try.prog.info? 36).map (·.size) = some ((sha256 (sha256 zs)).map (Value.int .u8)).length) := by
    rw [List.length_map, sha_length]; exact Lib.hid sz_hash
  go_wp2_with (first | (go_at_call 77; refine (twice_any q 0 _ zs _ HS.out (by rw [HL.out]; omega)).mono ?_; rintro e W3 ⟨rfl, hk3⟩; have HK3 := Lib.hid hk3; clear hk3) | (refine wpList_store_row rfl 36 (.tmp 2) (.tmp 6) rfl p 0 rfl _ _ rfl (HRR.out.keeps HK3.out) (by simp [zeros32, sha_length]) Z32.out (int_oneCell _) ?_; intro W4 hr4 hc4; have HR4 := Lib.hid hr4; have HC4 := Lib.hid hc4; clear hr4 hc4))
  exact bodyPost_ret (v := .agg ((sha256 (sha256 zs)).map (Value.int .u8)).toArray) (results_cell_at (p := 2) (ty := 36) rfl _ _ p 0 _ _ rfl HR4.out Try.underlying36 rfl Z32.out) rfl ⟨rfl, hs_keeps_chg (HK.out.trans HK3.out) HC4.out (by have := HP.out; omega)⟩
set_option maxRecDepth 100000 in
theorem ref_double (v : Value) (n : Nat) (l : List Int) (w : World) (hr : Rd w 1 v n (l.map (Value.int .u8))) (hz : Bytes l) (hn : n ≤ 35184372088832) :
    Calls Try.prog 23 #[v] w fun e w' => e = .returned (.agg ((sha256 (sha256 l)).map (Value.int .u8)).toArray) ∧ Keeps w w' := by
  obtain ⟨a, cap, rfl⟩ : ∃ a cap, v = .slice a n cap := by obtain ⟨_, a, cap, h, _⟩ := hr; exact ⟨a, cap, h⟩
  have HS := Lib.hid hr; have HZ := Lib.hid hz
  clear hr hz
  go_enter Try.func23, Try.ntmps23
  go_upto_region 1 with (fail)
  obtain ⟨p, hp⟩ : ∃ p, p = w.heap.size := ⟨_, rfl⟩
  have hk0 : Keeps w (w.alloc (.cells zeros32.toArray 35)) := hs_keeps_alloc (Keeps.refl w) _
  have hr0 : Row (w.alloc (.cells zeros32.toArray 35)) p 0 zeros32 := by rw [hp]; exact Row.new _ _ _ rfl
  rw [← hp]
  have HP := Lib.hid hp
  clear hp
  refine wp_gen (fun W => Keeps w W ∧ Row W p 0 zeros32) ⟨hk0, hr0⟩ ?_
  clear hk0 hr0
  intro W ⟨hk, hr⟩
  have HK := Lib.hid hk; have HR := Lib.hid hr
  clear hk hr
  have Z1 : Hid ((Try.prog.info? 35).map (·.size) = some ((sha256 l).map (Value.int .u8)).length) := by
    rw [List.length_map, sha_length]; exact Lib.hid sz_b32
  have Z2 : Hid ((Try.prog.info? 35).map (·.size) = some ((sha256 (sha256 l)).map (Value.int .u8)).length) := by
    rw [List.length_map, sha_length]; exact Lib.hid sz_b32
  have Z0 : Hid (((sha256 l).map (Value.int .u8)).length = (List.replicate 32 (Value.int .u8 0)).length) := by
    rw [List.length_map, sha_length]; exact Lib.hid rfl
  go_upto_region 2 with (first | (go_at_call 57; refine (ref_sum256 _ n l _ (HS.out.keeps HK.out) HZ.out hn).mono ?_; rintro e W3 ⟨rfl, hk3⟩; have HK3 := Lib.hid hk3; clear hk3) | (refine wpList_store_row rfl 35 (.tmp 3) (.tmp 5) rfl W3.heap.size 0 rfl (List.replicate 32 (Value.int .u8 0)) _ rfl (Row.new _ _ _ rfl) Z0.out Z1.out (int_oneCell _) ?_; intro W4 hr4 hc4; have HR4 := Lib.hid hr4; have HC4 := Lib.hid hc4; clear hr4 hc4))
  have hk4 : Keeps w W4 := hs_keeps_chg (hs_keeps_alloc (HK.out.trans HK3.out) _) HC4.out (HK.out.trans HK3.out).size
  have hp4 : Row W4 p 0 zeros32 := ((HR.out.keeps HK3.out).alloc _).chg HC4.out (by have h1 := HR.out.lt (by simp [zeros32]); have h2 := HK3.out.size; omega)
  have HK4 := Lib.hid hk4; have HP4 := Lib.hid hp4
  clear hk4 hp4 HC4 HR
  go_wp2_with (first | (go_at_call 57; refine (ref_sum256 _ 32 (sha256 l) _ (rd_sha HR4.out) (sha_bytes l) (by omega)).mono ?_; rintro e W5 ⟨rfl, hk5⟩; have HK5 := Lib.hid hk5; clear hk5) | (refine wpList_store_row rfl 35 (.tmp 2) (.tmp 7) rfl p 0 rfl _ _ rfl (HP4.out.keeps HK5.out) (by simp [zeros32, sha_length]) Z2.out (int_oneCell _) ?_; intro W6 hr6 hc6; have HR6 := Lib.hid hr6; have HC6 := Lib.hid hc6; clear hr6 hc6))
  exact bodyPost_ret (v := .agg ((sha256 (sha256 l)).map (Value.int .u8)).toArray) (results_cell_at (p := 2) (ty := 35) rfl _ _ p 0 _ _ rfl HR6.out Try.underlying35 rfl Z2.out) rfl ⟨rfl, hs_keeps_chg (HK4.out.trans HK5.out) HC6.out (by have := HP.out; omega)⟩
end Go.Proofs.Ytjfkkdkmpnpmpaa
