/- hash.Sum256, Double, Sum's Twice, and the reference's Double: SHA-256, and twice. | tx.Id, tx.WitnessId, the reference's Id and Weight. | The reference's head as bytes; a head's name, in both. -/
import Derived.Test.YtcodpdpeklammaaGreatDoorGD3
import Derived.Test.YtcodpdpeklammaaGreatDoorGD6
import Derived.Test.YtcodpdpeklammaaGreatDoorGC1
import Derived.Test.YtcodpdpeklammaaGreatDoorGA8
import Derived.Test.YtcodpdpeklammaaGreatDoorGB8
import Derived.Test.YtcodpdpeklammaaGreatDoorGC6
import Derived.Test.YtcodpdpeklammaaGreatDoorGA4
namespace Go.Proofs.YtcodpdpeklammaaGreatDoor
set_option linter.unusedVariables false
set_option linter.unusedSimpArgs false
open Go Go.RowKit

theorem outB_bytes (ws : List Int) : Bytes (hs_outB ws) := by
  intro x hx
  simp only [hs_outB, List.mem_flatMap, List.mem_cons, List.not_mem_nil, or_false] at hx
  obtain ⟨y, _, h⟩ := hx
  unfold Byte
  rcases h with rfl | rfl | rfl | rfl <;> omega
theorem sha_bytes (l : List Int) : Bytes (sha256 l) := outB_bytes _
theorem sha_length (l : List Int) : (sha256 l).length = 32 := outB_length _
theorem sz_hash : (Tryz.prog.info? 23).map (·.size) = some 32 := by kernel_rfl
theorem sz_b32 : (Tryz.prog.info? 22).map (·.size) = some 32 := by kernel_rfl
theorem sumAt_zero {W : World} {p : Nat} (h : Row W p 0 zeroSum) : SumAt W p 0 (.slice none 0 0) [] :=
  ⟨fun x hx => by simp at hx, by simp, ⟨⟨0, 0, 0, 0, 0, 0, 0, 0⟩, false, by unfold St.ok W32; simp, .inr ⟨rfl, rfl⟩, h⟩, Buf.nil _ _, by simp [Value.ownBlock]⟩
def zeros32 : List Value := List.replicate 32 (Value.int .u8 0)
/-- two new blocks: the result's, and a Sum that is nought -/
structure Fresh2 (w W : World) (p q : Nat) : Prop where
  keeps : Keeps w W
  res : Row W p 0 zeros32
  sum : SumAt W q 0 (.slice none 0 0) []
  new : w.heap.size ≤ p ∧ p < q
theorem fresh2 (w : World) (T U : TypeId) : Fresh2 w ((w.alloc (.cells zeros32.toArray T)).alloc (.cells zeroSum.toArray U)) w.heap.size (w.heap.size + 1) :=
  ⟨hs_keeps_alloc (hs_keeps_alloc (Keeps.refl w) _) _, (Row.new _ _ _ rfl).alloc _, by
    have := Row.new (w := w.alloc (.cells zeros32.toArray T)) zeroSum _ U rfl
    rw [World.size_alloc] at this
    exact sumAt_zero this, Nat.le_refl _, by omega⟩
theorem Fresh2.added {w W W' : World} {p q : Nat} {l : List Int} (h : Fresh2 w W p q) (ha : AddPost W W' q 0 (.slice none 0 0) ([] ++ l)) : ∃ wv, Keeps w W' ∧ Row W' p 0 zeros32 ∧ SumAt W' q 0 wv l := by
  obtain ⟨wv, h1, h2, _⟩ := ha
  refine ⟨wv, ?_, h.res.chg h2 ?_, h1⟩
  · exact Below.trans h.keeps (h2.below h.keeps.size (fun k hk e => by
      rcases e with e | e
      · have := h.new; omega
      · simp [Value.ownBlock] at e))
  · rintro (e | e)
    · have := h.new; omega
    · simp [Value.ownBlock] at e
set_option maxRecDepth 100000 in
theorem sum256_any (v : Value) (n : Nat) (zs : List Int) (w : World) (hr : Rd w 1 v n (zs.map (Value.int .u8))) (hz : Bytes zs) (hn : n ≤ 35184372088832) :
    Calls Tryz.prog 93 #[v] w fun e w' => e = .returned (.agg ((sha256 zs).map (Value.int .u8)).toArray) ∧ Keeps w w' := by
  have hzl : zs.length = n := by have := hr.1; simpa using this
  obtain ⟨a, cap, rfl⟩ : ∃ a cap, v = .slice a n cap := by obtain ⟨_, a, cap, h, _⟩ := hr; exact ⟨a, cap, h⟩
  have HR := Lib.hid hr; have HZ := Lib.hid hz; have HL := Lib.hid hzl
  clear hr hz hzl
  go_enter Tryz.func93, Tryz.ntmps93
  go_upto_region 2 with (fail)
  have hf := fresh2 w 23 116
  obtain ⟨q, hq⟩ : ∃ q, q = w.heap.size + 1 := ⟨_, rfl⟩
  obtain ⟨p, hp⟩ : ∃ p, p = w.heap.size := ⟨_, rfl⟩
  rw [← hq, ← hp] at hf ⊢
  have HP := Lib.hid hp
  clear hq hp
  refine wp_gen (fun W => Fresh2 w W p q) hf ?_
  clear hf
  intro W hf
  have HF := Lib.hid hf
  clear hf
  go_upto_region 3 with (go_at_call 61; refine (sum_add q 0 _ [] _ n zs _ HF.out.sum (HR.out.keeps HF.out.keeps) HZ.out (by omega) (by simp; omega) (fun h0 e => by have h1 := HR.out.own_lt h0 q e; have h2 := HF.out.new; have h3 := HP.out; omega)).mono ?_; rintro e W2 ⟨rfl, hA⟩; have HA := Lib.hid hA; clear hA)
  obtain ⟨wv, hk, hr, hs⟩ := HF.out.added HA.out
  have HK := Lib.hid hk; have HRR := Lib.hid hr; have HS := Lib.hid hs
  clear hk hr hs HA
  have Z32 : Hid ((Tryz.prog.info? 23).map (·.size) = some ((sha256 zs).map (Value.int .u8)).length) := by
    rw [List.length_map, sha_length]; exact Lib.hid sz_hash
  go_wp2_with (first | (go_at_call 92; refine (sum_hash q 0 _ zs _ HS.out (by rw [HL.out]; omega)).mono ?_; rintro e W3 ⟨rfl, hk3⟩; have HK3 := Lib.hid hk3; clear hk3) | (refine wpList_store_row rfl 23 (.tmp 2) (.tmp 6) rfl p 0 rfl _ _ rfl (HRR.out.keeps HK3.out) (by simp [zeros32, sha_length]) Z32.out (int_oneCell _) ?_; intro W4 hr4 hc4; have HR4 := Lib.hid hr4; have HC4 := Lib.hid hc4; clear hr4 hc4))
  exact bodyPost_ret (v := .agg ((sha256 zs).map (Value.int .u8)).toArray) (results_cell_at (p := 2) (ty := 23) rfl _ _ p 0 _ _ rfl HR4.out Tryz.underlying23 rfl Z32.out) rfl ⟨rfl, hs_keeps_chg (HK.out.trans HK3.out) HC4.out (by have := HP.out; omega)⟩
/-- behind the first of two digests: a block holds it -/
theorem rd_sha {W : World} {q : Nat} {l : List Int} (h : Row W q 0 ((sha256 l).map (Value.int .u8))) : Rd W 1 (.slice (some ⟨q, 0, none⟩) 32 32) 32 ((sha256 l).map (Value.int .u8)) :=
  Rd.of_row h (by simp [sha_length]) (h.lt (by intro e; have := congrArg List.length e; rw [List.length_map, sha_length] at this; simp at this)) (Nat.le_refl _) (by unfold maxLen; omega)
set_option maxRecDepth 100000 in
theorem twice_any (b o : Nat) (wv : Value) (l : List Int) (w : World) (hs : SumAt w b o wv l) (hsm : l.length < 576460752303423488) :
    Calls Tryz.prog 62 #[.pointer (some ⟨b, o, none⟩)] w fun e w' => e = .returned (.agg ((sha256 (sha256 l)).map (Value.int .u8)).toArray) ∧ Keeps w w' := by
  have HS := Lib.hid hs
  clear hs
  go_enter Tryz.func62, Tryz.ntmps62
  go_upto_region 1 with (fail)
  obtain ⟨p, hp⟩ : ∃ p, p = w.heap.size := ⟨_, rfl⟩
  have hk0 : Keeps w (w.alloc (.cells zeros32.toArray 23)) := hs_keeps_alloc (Keeps.refl w) _
  have hr0 : Row (w.alloc (.cells zeros32.toArray 23)) p 0 zeros32 := by rw [hp]; exact Row.new _ _ _ rfl
  rw [← hp]
  have HP := Lib.hid hp
  clear hp
  refine wp_gen (fun W => Keeps w W ∧ Row W p 0 zeros32) ⟨hk0, hr0⟩ ?_
  clear hk0 hr0
  intro W ⟨hk, hr⟩
  have HK := Lib.hid hk; have HR := Lib.hid hr
  clear hk hr
  have Z1 : Hid ((Tryz.prog.info? 23).map (·.size) = some ((sha256 l).map (Value.int .u8)).length) := by
    rw [List.length_map, sha_length]; exact Lib.hid sz_hash
  have Z2 : Hid ((Tryz.prog.info? 23).map (·.size) = some ((sha256 (sha256 l)).map (Value.int .u8)).length) := by
    rw [List.length_map, sha_length]; exact Lib.hid sz_hash
  have Z0 : Hid (((sha256 l).map (Value.int .u8)).length = (List.replicate 32 (Value.int .u8 0)).length) := by
    rw [List.length_map, sha_length]; exact Lib.hid rfl
  go_upto_region 2 with (first | (go_at_call 92; refine (sum_hash b o _ l _ (HS.out.keeps HK.out) hsm).mono ?_; rintro e W3 ⟨rfl, hk3⟩; have HK3 := Lib.hid hk3; clear hk3) | (refine wpList_store_row rfl 23 (.tmp 3) (.tmp 5) rfl W3.heap.size 0 rfl (List.replicate 32 (Value.int .u8 0)) _ rfl (Row.new _ _ _ rfl) Z0.out Z1.out (int_oneCell _) ?_; intro W4 hr4 hc4; have HR4 := Lib.hid hr4; have HC4 := Lib.hid hc4; clear hr4 hc4))
  have hk4 : Keeps w W4 := hs_keeps_chg (hs_keeps_alloc (HK.out.trans HK3.out) _) HC4.out (HK.out.trans HK3.out).size
  have hp4 : Row W4 p 0 zeros32 := ((HR.out.keeps HK3.out).alloc _).chg HC4.out (by have h1 := HR.out.lt (by simp [zeros32]); have h2 := HK3.out.size; omega)
  have HK4 := Lib.hid hk4; have HP4 := Lib.hid hp4
  clear hk4 hp4 HC4 HR
  go_wp2_with (first | (go_at_call 93; refine (sum256_any _ 32 (sha256 l) _ (rd_sha HR4.out) (sha_bytes l) (by omega)).mono ?_; rintro e W5 ⟨rfl, hk5⟩; have HK5 := Lib.hid hk5; clear hk5) | (refine wpList_store_row rfl 23 (.tmp 2) (.tmp 7) rfl p 0 rfl _ _ rfl (HP4.out.keeps HK5.out) (by simp [zeros32, sha_length]) Z2.out (int_oneCell _) ?_; intro W6 hr6 hc6; have HR6 := Lib.hid hr6; have HC6 := Lib.hid hc6; clear hr6 hc6))
  exact bodyPost_ret (v := .agg ((sha256 (sha256 l)).map (Value.int .u8)).toArray) (results_cell_at (p := 2) (ty := 23) rfl _ _ p 0 _ _ rfl HR6.out Tryz.underlying23 rfl Z2.out) rfl ⟨rfl, hs_keeps_chg (HK4.out.trans HK5.out) HC6.out (by have := HP.out; omega)⟩
set_option maxRecDepth 100000 in
theorem double_any (v : Value) (n : Nat) (zs : List Int) (w : World) (hr : Rd w 1 v n (zs.map (Value.int .u8))) (hz : Bytes zs) (hn : n ≤ 35184372088832) :
    Calls Tryz.prog 34 #[v] w fun e w' => e = .returned (.agg ((sha256 (sha256 zs)).map (Value.int .u8)).toArray) ∧ Keeps w w' := by
  have hzl : zs.length = n := by have := hr.1; simpa using this
  obtain ⟨a, cap, rfl⟩ : ∃ a cap, v = .slice a n cap := by obtain ⟨_, a, cap, h, _⟩ := hr; exact ⟨a, cap, h⟩
  have HR := Lib.hid hr; have HZ := Lib.hid hz; have HL := Lib.hid hzl
  clear hr hz hzl
  go_enter Tryz.func34, Tryz.ntmps34
  go_upto_region 2 with (fail)
  have hf := fresh2 w 23 116
  obtain ⟨q, hq⟩ : ∃ q, q = w.heap.size + 1 := ⟨_, rfl⟩
  obtain ⟨p, hp⟩ : ∃ p, p = w.heap.size := ⟨_, rfl⟩
  rw [← hq, ← hp] at hf ⊢
  have HP := Lib.hid hp
  clear hq hp
  refine wp_gen (fun W => Fresh2 w W p q) hf ?_
  clear hf
  intro W hf
  have HF := Lib.hid hf
  clear hf
  go_upto_region 3 with (go_at_call 61; refine (sum_add q 0 _ [] _ n zs _ HF.out.sum (HR.out.keeps HF.out.keeps) HZ.out (by omega) (by simp; omega) (fun h0 e => by have h1 := HR.out.own_lt h0 q e; have h2 := HF.out.new; have h3 := HP.out; omega)).mono ?_; rintro e W2 ⟨rfl, hA⟩; have HA := Lib.hid hA; clear hA)
  obtain ⟨wv, hk, hr, hs⟩ := HF.out.added HA.out
  have HK := Lib.hid hk; have HRR := Lib.hid hr; have HS := Lib.hid hs
  clear hk hr hs HA
  have Z32 : Hid ((Tryz.prog.info? 23).map (·.size) = some ((sha256 (sha256 zs)).map (Value.int .u8)).length) := by
    rw [List.length_map, sha_length]; exact Lib.hid sz_hash
  go_wp2_with (first | (go_at_call 62; refine (twice_any q 0 _ zs _ HS.out (by rw [HL.out]; omega)).mono ?_; rintro e W3 ⟨rfl, hk3⟩; have HK3 := Lib.hid hk3; clear hk3) | (refine wpList_store_row rfl 23 (.tmp 2) (.tmp 6) rfl p 0 rfl _ _ rfl (HRR.out.keeps HK3.out) (by simp [zeros32, sha_length]) Z32.out (int_oneCell _) ?_; intro W4 hr4 hc4; have HR4 := Lib.hid hr4; have HC4 := Lib.hid hc4; clear hr4 hc4))
  exact bodyPost_ret (v := .agg ((sha256 (sha256 zs)).map (Value.int .u8)).toArray) (results_cell_at (p := 2) (ty := 23) rfl _ _ p 0 _ _ rfl HR4.out Tryz.underlying23 rfl Z32.out) rfl ⟨rfl, hs_keeps_chg (HK.out.trans HK3.out) HC4.out (by have := HP.out; omega)⟩
set_option maxRecDepth 100000 in
theorem ref_double (v : Value) (n : Nat) (l : List Int) (w : World) (hr : Rd w 1 v n (l.map (Value.int .u8))) (hz : Bytes l) (hn : n ≤ 35184372088832) :
    Calls Tryz.prog 35 #[v] w fun e w' => e = .returned (.agg ((sha256 (sha256 l)).map (Value.int .u8)).toArray) ∧ Keeps w w' := by
  obtain ⟨a, cap, rfl⟩ : ∃ a cap, v = .slice a n cap := by obtain ⟨_, a, cap, h, _⟩ := hr; exact ⟨a, cap, h⟩
  have HS := Lib.hid hr; have HZ := Lib.hid hz
  clear hr hz
  go_enter Tryz.func35, Tryz.ntmps35
  go_upto_region 1 with (fail)
  obtain ⟨p, hp⟩ : ∃ p, p = w.heap.size := ⟨_, rfl⟩
  have hk0 : Keeps w (w.alloc (.cells zeros32.toArray 22)) := hs_keeps_alloc (Keeps.refl w) _
  have hr0 : Row (w.alloc (.cells zeros32.toArray 22)) p 0 zeros32 := by rw [hp]; exact Row.new _ _ _ rfl
  rw [← hp]
  have HP := Lib.hid hp
  clear hp
  refine wp_gen (fun W => Keeps w W ∧ Row W p 0 zeros32) ⟨hk0, hr0⟩ ?_
  clear hk0 hr0
  intro W ⟨hk, hr⟩
  have HK := Lib.hid hk; have HR := Lib.hid hr
  clear hk hr
  have Z1 : Hid ((Tryz.prog.info? 22).map (·.size) = some ((sha256 l).map (Value.int .u8)).length) := by
    rw [List.length_map, sha_length]; exact Lib.hid sz_b32
  have Z2 : Hid ((Tryz.prog.info? 22).map (·.size) = some ((sha256 (sha256 l)).map (Value.int .u8)).length) := by
    rw [List.length_map, sha_length]; exact Lib.hid sz_b32
  have Z0 : Hid (((sha256 l).map (Value.int .u8)).length = (List.replicate 32 (Value.int .u8 0)).length) := by
    rw [List.length_map, sha_length]; exact Lib.hid rfl
  go_upto_region 2 with (first | (go_at_call 63; refine (ref_sum256 _ n l _ (HS.out.keeps HK.out) HZ.out hn).mono ?_; rintro e W3 ⟨rfl, hk3⟩; have HK3 := Lib.hid hk3; clear hk3) | (refine wpList_store_row rfl 22 (.tmp 3) (.tmp 5) rfl W3.heap.size 0 rfl (List.replicate 32 (Value.int .u8 0)) _ rfl (Row.new _ _ _ rfl) Z0.out Z1.out (int_oneCell _) ?_; intro W4 hr4 hc4; have HR4 := Lib.hid hr4; have HC4 := Lib.hid hc4; clear hr4 hc4))
  have hk4 : Keeps w W4 := hs_keeps_chg (hs_keeps_alloc (HK.out.trans HK3.out) _) HC4.out (HK.out.trans HK3.out).size
  have hp4 : Row W4 p 0 zeros32 := ((HR.out.keeps HK3.out).alloc _).chg HC4.out (by have h1 := HR.out.lt (by simp [zeros32]); have h2 := HK3.out.size; omega)
  have HK4 := Lib.hid hk4; have HP4 := Lib.hid hp4
  clear hk4 hp4 HC4 HR
  go_wp2_with (first | (go_at_call 63; refine (ref_sum256 _ 32 (sha256 l) _ (rd_sha HR4.out) (sha_bytes l) (by omega)).mono ?_; rintro e W5 ⟨rfl, hk5⟩; have HK5 := Lib.hid hk5; clear hk5) | (refine wpList_store_row rfl 22 (.tmp 2) (.tmp 7) rfl p 0 rfl _ _ rfl (HP4.out.keeps HK5.out) (by simp [zeros32, sha_length]) Z2.out (int_oneCell _) ?_; intro W6 hr6 hc6; have HR6 := Lib.hid hr6; have HC6 := Lib.hid hc6; clear hr6 hc6))
  exact bodyPost_ret (v := .agg ((sha256 (sha256 l)).map (Value.int .u8)).toArray) (results_cell_at (p := 2) (ty := 22) rfl _ _ p 0 _ _ rfl HR6.out Tryz.underlying22 rfl Z2.out) rfl ⟨rfl, hs_keeps_chg (HK4.out.trans HK5.out) HC6.out (by have := HP.out; omega)⟩
theorem Bytes.app {a b : List Int} (ha : Bytes a) (hb : Bytes b) : Bytes (a ++ b) := fun x hx => by
  rcases List.mem_append.1 hx with h | h
  · exact ha x h
  · exact hb x h
theorem Bytes.flat {α : Type} {f : α → List Int} {l : List α} (h : ∀ x ∈ l, Bytes (f x)) : Bytes (l.flatMap f) := fun x hx => by
  obtain ⟨y, hy, hxy⟩ := List.mem_flatMap.1 hx
  exact h y hy x hxy
theorem sizeB_bytes (n : Int) (h : 0 ≤ n) : Bytes (sizeB n) := by
  unfold sizeB
  have hc : ∀ (a : Int) (l : List Int), Byte a → Bytes l → Bytes (a :: l) := fun a l h1 h2 x hx => by
    rcases List.mem_cons.1 hx with rfl | hx
    · exact h1
    · exact h2 x hx
  split
  · exact hc _ _ ⟨h, by omega⟩ (fun x hx => by cases hx)
  · split
    · exact hc _ _ ⟨by omega, by omega⟩ (leB_bytes _ _)
    · split
      · exact hc _ _ ⟨by omega, by omega⟩ (leB_bytes _ _)
      · exact hc _ _ ⟨by omega, by omega⟩ (leB_bytes _ _)
theorem textB_bytes {l : List Int} (h : Bytes l) : Bytes (textB l) := Bytes.app (sizeB_bytes _ (by omega)) h
theorem RInsX.all {S T R : Nat → Prop} {w : World} {v : Value} {l : List InD} (h : RInsX S T R w v l) : ∀ x ∈ l, x.Ok ∧ Bytes x.script ∧ ∀ u ∈ x.wit, Bytes u := by
  obtain ⟨cs, ps, h⟩ := h
  intro x hx
  obtain ⟨k, hk, e⟩ := List.getElem_of_mem hx
  have hp : ps[k]? = some (ps[k]'(by rw [h.plen]; exact hk)) := List.getElem?_eq_getElem _
  have h1 := (h.each k _ x hp (by rw [List.getElem?_eq_getElem hk, e])).1
  refine ⟨h1.ok, h1.script.bytes, fun u hu => ?_⟩
  obtain ⟨vs, hw⟩ := h1.wit
  obtain ⟨j, hj, e2⟩ := List.getElem_of_mem hu
  have hv : vs[j]? = some (vs[j]'(by rw [hw.len]; exact hj)) := List.getElem?_eq_getElem _
  exact (hw.each j _ u hv (by rw [List.getElem?_eq_getElem hj, e2])).bytes
theorem ROutsX.all {S R : Nat → Prop} {w : World} {v : Value} {l : List OutD} (h : ROutsX S R w v l) : ∀ x ∈ l, Bytes x.script := by
  obtain ⟨cs, ps, h⟩ := h
  intro x hx
  obtain ⟨k, hk, e⟩ := List.getElem_of_mem hx
  have hp : ps[k]? = some (ps[k]'(by rw [h.plen]; exact hk)) := List.getElem?_eq_getElem _
  exact (h.each k _ x hp (by rw [List.getElem?_eq_getElem hk, e])).1.bytes
theorem RTx.bytes {S T R : Nat → Prop} {w : World} {iv ov : Value} {d : TxD} (h : RTx S T R w iv ov d) (wit : Bool) : Bytes (encB d wit) := by
  have hI := h.ins.all
  have hO := h.outs.all
  have h1 : Bytes (insB d.ins) := Bytes.app (sizeB_bytes _ (by omega)) (Bytes.flat fun x hx => Bytes.app (Bytes.app (Bytes.app (hI x hx).1.hash (leB_bytes _ _)) (textB_bytes (hI x hx).2.1)) (leB_bytes _ _))
  have h2 : Bytes (outsB d.outs) := Bytes.app (sizeB_bytes _ (by omega)) (Bytes.flat fun x hx => Bytes.app (leB_bytes _ _) (textB_bytes (hO x hx)))
  have h3 : Bytes (d.ins.flatMap witB) := Bytes.flat fun x hx => Bytes.app (sizeB_bytes _ (by omega)) (Bytes.flat fun u hu => textB_bytes ((hI x hx).2.2 u hu))
  have hm : Bytes (if (wit && witnessedD d) = true then [0, 1] else []) := by
    split
    · intro x hx; simp at hx; rcases hx with rfl | rfl <;> exact ⟨by omega, by omega⟩
    · intro x hx; cases hx
  have hw : Bytes (if (wit && witnessedD d) = true then d.ins.flatMap witB else []) := by
    split
    · exact h3
    · intro x hx; cases hx
  unfold encB
  exact Bytes.app (Bytes.app (Bytes.app (Bytes.app (Bytes.app (leB_bytes _ _) hm) h1) h2) hw) (leB_bytes _ _)
set_option maxRecDepth 100000 in
set_option maxHeartbeats 4000000 in
theorem rencodeHeader_any (ver : Int) (prev merkle : List Int) (t b n : Int) (hp : prev.length = 32) (hm : merkle.length = 32) (ht : U32 t) (hb : U32 b) (hn : U32 n) (w : World) :
    Calls Tryz.prog 11 #[.agg (headCells ver prev merkle t b n).toArray] w fun e w' => ∃ v, e = .returned v ∧ Own w w' v 80 (headB ver prev merkle t b n) := by
  have hc0 := headCells_ver ver prev merkle t b n
  obtain ⟨hc1, hc2, hc3⟩ := headCells_at ver prev merkle t b n hp hm
  have hd1 := headCells_prev ver prev merkle t b n hp
  have hd2 := headCells_merkle ver prev merkle t b n hp hm
  generalize headCells ver prev merkle t b n = H at *
  have HC0 := Lib.hid hc0; have HC1 := Lib.hid hc1; have HC2 := Lib.hid hc2; have HC3 := Lib.hid hc3; have HD1 := Lib.hid hd1; have HD2 := Lib.hid hd2
  clear hc0 hc1 hc2 hc3 hd1 hd2
  have hver : IntKind.u32.wrap ver = ver % 4294967296 := by rw [IntKind.wrap_u32]
  have hv0 : 0 ≤ ver % 4294967296 := by omega
  have hv1 : ver % 4294967296 < 4294967296 := by omega
  have hbe : headB ver prev merkle t b n = leB (ver % 4294967296) 4 ++ prev ++ merkle ++ leB t 4 ++ leB b 4 ++ leB n 4 := rfl
  have HBE := Lib.hid hbe
  clear hbe
  generalize headB ver prev merkle t b n = HB at *
  obtain ⟨ht0, ht1⟩ := ht
  obtain ⟨hb0, hb1⟩ := hb
  obtain ⟨hn0, hn1⟩ := hn
  have HLV := Lib.hid (low_any (ver % 4294967296) hv0 (by omega) 4 (by omega))
  have HLT := Lib.hid (low_any t ht0 (by omega) 4 (by omega))
  have HLB := Lib.hid (low_any b hb0 (by omega) 4 (by omega))
  have HLN := Lib.hid (low_any n hn0 (by omega) 4 (by omega))
  generalize ver % 4294967296 = vv at *
  go_enter Tryz.func11, Tryz.ntmps11
  go_upto_region 1 with (fail)
  refine wp_rows1 (fun W hk hr hs => ?_)
  obtain ⟨p, hp'⟩ : ∃ p, p = w.heap.size := ⟨_, rfl⟩
  rw [← hp'] at hr hs ⊢
  have HR := Lib.hid (show Row W p 0 H from hr); have HK := Lib.hid hk
  have r0 := (HR.out 0 _ HC0.out).1
  rw [Nat.zero_add] at r0
  clear hr hk hs hp'
  go_upto_region 2 with (go_at_call 33; refine (HLV.out _).mono ?_; rintro e W1 ⟨v1, rfl, hO1⟩; have HO1 := Lib.hid hO1; clear hO1)
  have rd1 : Rd W1 1 (.slice (some ⟨p, 1, none⟩) 32 32) 32 (prev.map (Value.int .u8)) := by
    have := (HR.out.keeps HO1.out.keeps).rd 1 32 _ HD1.out (by simp [hp]) (by omega) (by omega)
    rwa [Nat.zero_add] at this
  have RD1 := Lib.hid rd1
  clear rd1
  go_upto_region 3 with (at_builtin; refine own_append rfl _ _ rfl HO1.out (Keeps.refl _) rfl _ rfl 32 prev (RD1.out.src Tryz.underlying32 (int_oneCell prev)) (by omega) ?_; intro v2 W2 hO2 hG2; have HO2 := Lib.hid hO2; clear hO2 hG2)
  have rd2 : Rd W2 1 (.slice (some ⟨p, 33, none⟩) 32 32) 32 (merkle.map (Value.int .u8)) := by
    have := (HR.out.keeps HO2.out.keeps).rd 33 32 _ HD2.out (by simp [hm]) (by omega) (by omega)
    rwa [Nat.zero_add] at this
  have RD2 := Lib.hid rd2
  clear rd2
  go_upto_region 4 with (at_builtin; refine own_append rfl _ _ rfl HO2.out (Keeps.refl _) rfl _ rfl 32 merkle (RD2.out.src Tryz.underlying32 (int_oneCell merkle)) (by omega) ?_; intro v3 W3 hO3 hG3; have HO3 := Lib.hid hO3; clear hO3 hG3)
  have r4 := (HR.out.keeps (HO3.out.keeps) 65 _ HC1.out).1
  rw [Nat.zero_add] at r4
  go_upto_region 5 with (first | (go_at_call 33; refine (HLT.out _).mono ?_; rintro e Wl ⟨vl, rfl, hOl⟩; have HOl := Lib.hid hOl; clear hOl) | (at_builtin; refine own_append rfl _ _ rfl HO3.out HOl.out.keeps rfl _ rfl 4 _ (HOl.out.rd.src Tryz.underlying32 (int_oneCell _)) (by omega) ?_; intro v4 W4 hO4 hG4; have HO4 := Lib.hid hO4; clear hO4 hG4 HOl))
  have r5 := (HR.out.keeps (HO4.out.keeps) 66 _ HC2.out).1
  rw [Nat.zero_add] at r5
  go_upto_region 6 with (first | (go_at_call 33; refine (HLB.out _).mono ?_; rintro e Wl ⟨vl, rfl, hOl⟩; have HOl := Lib.hid hOl; clear hOl) | (at_builtin; refine own_append rfl _ _ rfl HO4.out HOl.out.keeps rfl _ rfl 4 _ (HOl.out.rd.src Tryz.underlying32 (int_oneCell _)) (by omega) ?_; intro v5 W5 hO5 hG5; have HO5 := Lib.hid hO5; clear hO5 hG5 HOl))
  have r6 := (HR.out.keeps (HO5.out.keeps) 67 _ HC3.out).1
  rw [Nat.zero_add] at r6
  go_wp2_with (first | (go_at_call 33; refine (HLN.out _).mono ?_; rintro e Wl ⟨vl, rfl, hOl⟩; have HOl := Lib.hid hOl; clear hOl) | (at_builtin; refine own_append rfl _ _ rfl HO5.out HOl.out.keeps rfl _ rfl 4 _ (HOl.out.rd.src Tryz.underlying32 (int_oneCell _)) (by omega) ?_; intro v6 W6 hO6 hG6; have HO6 := Lib.hid hO6; clear hO6 hG6 HOl))
  go_ret
  refine ⟨_, rfl, ?_⟩
  rw [HBE.out]
  exact HO6.out.from' HK.out
/-- a head's name -/
def hidD (ver : Int) (prev merkle : List Int) (t b n : Int) : List Int := sha256 (sha256 (headB ver prev merkle t b n))
theorem headB_bytes (ver : Int) (prev merkle : List Int) (t b n : Int) (hp : Bytes prev) (hm : Bytes merkle) : Bytes (headB ver prev merkle t b n) := by
  unfold headB
  exact Bytes.app (Bytes.app (Bytes.app (Bytes.app (Bytes.app (leB_bytes _ _) hp) hm) (leB_bytes _ _)) (leB_bytes _ _)) (leB_bytes _ _)
theorem sz_head (ver : Int) (prev merkle : List Int) (t b n : Int) (hp : prev.length = 32) (hm : merkle.length = 32) : (Tryz.prog.info? 26).map (·.size) = some (headCells ver prev merkle t b n).length := by
  have : (headCells ver prev merkle t b n).length = 68 := by simp [headCells, hp, hm]
  have h : (Tryz.prog.info? 26).map (·.size) = some 68 := by kernel_rfl
  rw [h, this]
set_option maxRecDepth 100000 in
set_option maxHeartbeats 2000000 in
theorem bid_any (ver : Int) (prev merkle : List Int) (t b n : Int) (hp : prev.length = 32) (hm : merkle.length = 32) (hpb : Bytes prev) (hmb : Bytes merkle) (ht : U32 t) (hb : U32 b) (hn : U32 n) (w : World) :
    Calls Tryz.prog 12 #[.agg (headCells ver prev merkle t b n).toArray] w fun e w' => e = .returned (.agg ((hidD ver prev merkle t b n).map (Value.int .u8)).toArray) ∧ Keeps w w' := by
  have HENC := Lib.hid (fun W => encodeHeader_any ver prev merkle t b n hp hm ht hb hn W)
  have hbb := headB_bytes ver prev merkle t b n hpb hmb
  have Z32 : Hid ((Tryz.prog.info? 23).map (·.size) = some ((hidD ver prev merkle t b n).map (Value.int .u8)).length) := by
    unfold hidD; rw [List.length_map, sha_length]; exact Lib.hid sz_hash
  have ZH : Hid ((Tryz.prog.info? 26).map (·.size) = some (headCells ver prev merkle t b n).length) := Lib.hid (sz_head ver prev merkle t b n hp hm)
  have HDB := Lib.hid (fun (W : World) (v : Value) (k : Nat) (hr : Rd W 1 v k ((headB ver prev merkle t b n).map (Value.int .u8))) (hk : k ≤ 35184372088832) => double_any v k (headB ver prev merkle t b n) W hr hbb hk)
  have hidl : (hidD ver prev merkle t b n).length = 32 := by unfold hidD; exact sha_length _
  have hide : sha256 (sha256 (headB ver prev merkle t b n)) = hidD ver prev merkle t b n := rfl
  rw [hide] at HDB
  generalize hidD ver prev merkle t b n = ID at *
  generalize headB ver prev merkle t b n = EB at *
  generalize headCells ver prev merkle t b n = HC at *
  go_enter Tryz.func12, Tryz.ntmps12
  go_upto_region 1 with (fail)
  refine wp_rows2 (fun W0 hk hr1 hr2 hs => ?_)
  have hr2 : Row W0 (w.heap.size + 1) 0 (List.replicate 32 (Value.int .u8 0)) := hr2
  have HK := Lib.hid hk; have HR2 := Lib.hid hr2; have HR1 := Lib.hid (show Row W0 w.heap.size 0 HC from hr1)
  clear hk hr1 hr2 hs
  go_wp2_with (first | (refine wpList_load_at rfl 26 (.tmp 1) rfl w.heap.size 0 rfl _ _ HR1.out Tryz.underlying26 rfl ZH.out ?_) | (go_at_call 7; refine (HENC.out _).mono ?_; rintro e W2 ⟨v2, rfl, hO2⟩; obtain ⟨a2, c2, rfl⟩ := hO2.any; have HO2 := Lib.hid hO2; clear hO2) | (go_at_call 34; refine (HDB.out _ _ _ HO2.out.rd (by omega)).mono ?_; rintro e W3 ⟨rfl, hk3⟩; have HK3 := Lib.hid hk3; clear hk3) | (refine wpList_store_row rfl 23 (.tmp 2) (.tmp 5) rfl (w.heap.size + 1) 0 rfl _ _ rfl ((HR2.out.keeps HO2.out.keeps).keeps HK3.out) (by simp [hidl]) Z32.out (int_oneCell _) ?_; intro W4 hr4 hc4; have HR4 := Lib.hid hr4; have HC4 := Lib.hid hc4; clear hr4 hc4))
  exact bodyPost_ret (v := .agg (ID.map (Value.int .u8)).toArray) (results_cell_at (p := 2) (ty := 23) rfl _ _ (w.heap.size + 1) 0 _ _ rfl HR4.out Tryz.underlying23 rfl Z32.out) rfl ⟨rfl, keeps_chg ((HK.out.trans HO2.out.keeps).trans HK3.out) HC4.out (by omega)⟩
set_option maxRecDepth 100000 in
set_option maxHeartbeats 2000000 in
theorem rbid_any (ver : Int) (prev merkle : List Int) (t b n : Int) (hp : prev.length = 32) (hm : merkle.length = 32) (hpb : Bytes prev) (hmb : Bytes merkle) (ht : U32 t) (hb : U32 b) (hn : U32 n) (w : World) :
    Calls Tryz.prog 13 #[.agg (headCells ver prev merkle t b n).toArray] w fun e w' => e = .returned (.agg ((hidD ver prev merkle t b n).map (Value.int .u8)).toArray) ∧ Keeps w w' := by
  have HENC := Lib.hid (fun W => rencodeHeader_any ver prev merkle t b n hp hm ht hb hn W)
  have hbb := headB_bytes ver prev merkle t b n hpb hmb
  have Z32 : Hid ((Tryz.prog.info? 22).map (·.size) = some ((hidD ver prev merkle t b n).map (Value.int .u8)).length) := by
    unfold hidD; rw [List.length_map, sha_length]; exact Lib.hid sz_b32
  have ZH : Hid ((Tryz.prog.info? 26).map (·.size) = some (headCells ver prev merkle t b n).length) := Lib.hid (sz_head ver prev merkle t b n hp hm)
  have HDB := Lib.hid (fun (W : World) (v : Value) (k : Nat) (hr : Rd W 1 v k ((headB ver prev merkle t b n).map (Value.int .u8))) (hk : k ≤ 35184372088832) => ref_double v k (headB ver prev merkle t b n) W hr hbb hk)
  have hidl : (hidD ver prev merkle t b n).length = 32 := by unfold hidD; exact sha_length _
  have hide : sha256 (sha256 (headB ver prev merkle t b n)) = hidD ver prev merkle t b n := rfl
  rw [hide] at HDB
  generalize hidD ver prev merkle t b n = ID at *
  generalize headB ver prev merkle t b n = EB at *
  generalize headCells ver prev merkle t b n = HC at *
  go_enter Tryz.func13, Tryz.ntmps13
  go_upto_region 1 with (fail)
  refine wp_rows2 (fun W0 hk hr1 hr2 hs => ?_)
  have hr2 : Row W0 (w.heap.size + 1) 0 (List.replicate 32 (Value.int .u8 0)) := hr2
  have HK := Lib.hid hk; have HR2 := Lib.hid hr2; have HR1 := Lib.hid (show Row W0 w.heap.size 0 HC from hr1)
  clear hk hr1 hr2 hs
  go_wp2_with (first | (refine wpList_load_at rfl 26 (.tmp 1) rfl w.heap.size 0 rfl _ _ HR1.out Tryz.underlying26 rfl ZH.out ?_) | (go_at_call 11; refine (HENC.out _).mono ?_; rintro e W2 ⟨v2, rfl, hO2⟩; obtain ⟨a2, c2, rfl⟩ := hO2.any; have HO2 := Lib.hid hO2; clear hO2) | (go_at_call 35; refine (HDB.out _ _ _ HO2.out.rd (by omega)).mono ?_; rintro e W3 ⟨rfl, hk3⟩; have HK3 := Lib.hid hk3; clear hk3) | (refine wpList_store_row rfl 22 (.tmp 2) (.tmp 5) rfl (w.heap.size + 1) 0 rfl _ _ rfl ((HR2.out.keeps HO2.out.keeps).keeps HK3.out) (by simp [hidl]) Z32.out (int_oneCell _) ?_; intro W4 hr4 hc4; have HR4 := Lib.hid hr4; have HC4 := Lib.hid hc4; clear hr4 hc4))
  exact bodyPost_ret (v := .agg (ID.map (Value.int .u8)).toArray) (results_cell_at (p := 2) (ty := 22) rfl _ _ (w.heap.size + 1) 0 _ _ rfl HR4.out Tryz.underlying22 rfl Z32.out) rfl ⟨rfl, keeps_chg ((HK.out.trans HO2.out.keeps).trans HK3.out) HC4.out (by omega)⟩
/-- a head's parts -/
structure HeadOk (ver : Int) (prev merkle : List Int) (t b n : Int) : Prop where
  ver : I32 ver
  prevLen : prev.length = 32
  prev : Bytes prev
  merkleLen : merkle.length = 32
  merkle : Bytes merkle
  time : U32 t
  bits : U32 b
  nonce : U32 n
theorem headCells_length {ver : Int} {prev merkle : List Int} {t b n : Int} (h : HeadOk ver prev merkle t b n) : (headCells ver prev merkle t b n).length = 68 := by simp [headCells, h.prevLen, h.merkleLen]
end Go.Proofs.YtcodpdpeklammaaGreatDoor
