/- Numbers of 256 bits: block's words as bytes again. -/
import Derived.Test.YtdcoiniecmeglaaDoorNumW
namespace Go.Proofs.YtdcoiniecmeglaaDoor
set_option linter.unusedVariables false
set_option linter.unusedSimpArgs false
open Go Go.RowKit

theorem words_getD (v : Int) (k : Nat) (hk : k < 4) : (words v).getD k 0 = v / 256 ^ (8 * k) % 18446744073709551616 := by
  have : k = 0 ∨ k = 1 ∨ k = 2 ∨ k = 3 := by omega
  rcases this with rfl | rfl | rfl | rfl
  · simp [words]
  · rfl
  · rfl
  · rfl
theorem words_byte (v : Int) (i : Nat) (hi : i < 32) : (words v).getD (3 - i / 8) 0 / 2 ^ (56 - 8 * (i % 8)) % 256 = (toB 32 v).getD i 0 := by
  rw [words_getD _ _ (by omega), toB_getD _ _ _ hi]
  have e : 32 - 1 - i = 8 * (3 - i / 8) + (7 - i % 8) := by omega
  rw [e, Int.pow_add, ← Int.ediv_ediv_of_nonneg (Int.pow_nonneg (by decide))]
  generalize v / 256 ^ (8 * (3 - i / 8)) = u
  have hr : i % 8 = 0 ∨ i % 8 = 1 ∨ i % 8 = 2 ∨ i % 8 = 3 ∨ i % 8 = 4 ∨ i % 8 = 5 ∨ i % 8 = 6 ∨ i % 8 = 7 := by omega
  rcases hr with hr | hr | hr | hr | hr | hr | hr | hr <;> rw [hr] <;> simp only [Nat.mul_zero, Nat.sub_zero, Nat.sub_self, Int.pow_zero, Int.ediv_one, Nat.reduceMul, Nat.reduceSub, Int.reducePow] <;> omega
theorem words_range (v : Int) (k : Nat) (hk : k < 4) : 0 ≤ (words v).getD k 0 ∧ (words v).getD k 0 < 18446744073709551616 := by
  rw [words_getD _ _ hk]; omega
/-- the byte that a word gives to place i -/
def wbyte (x : Int) (i : Nat) : Int := x / 2 ^ (56 - 8 * (i % 8)) % 256
theorem words_wbyte (v : Int) (i : Nat) (hi : i < 32) : wbyte ((words v).getD (3 - i / 8) 0) i = (toB 32 v).getD i 0 := words_byte v i hi
set_option maxRecDepth 100000 in
set_option maxHeartbeats 400000 in
theorem number_any (v : Int) (w : World) :
    Calls Tryd.prog 25 #[.agg ((words v).map (Value.int .u64)).toArray] w fun e w' => e = .returned (.agg ((toB 32 v).map (Value.int .u8)).toArray) ∧ Keeps w w' := by
  have htl := toB_length 32 v
  have HBY := Lib.hid (words_wbyte v)
  have HRG := Lib.hid (words_range v)
  have hwl := words_length v
  generalize words v = L at *
  generalize toB 32 v = RR at *
  go_enter Tryd.func25, Tryd.ntmps25
  go_upto_region 2 with (fail)
  refine wp_rows3 (fun W hk hra hr2 hr3 hs => ?_)
  obtain ⟨p, hp⟩ : ∃ p, p = w.heap.size := ⟨_, rfl⟩
  rw [← hp] at hra hr2 hr3 hs ⊢
  have hkp : w.heap.size ≤ p := by omega
  obtain ⟨Z, hZ, hrz⟩ : ∃ Z : List Value, Z.length = 32 ∧ Row W (p + 1) 0 Z := ⟨_, rfl, hr2⟩
  have HRA := Lib.hid (show Row W p 0 (L.map (Value.int .u64)) from hra); have HR2 := Lib.hid hrz
  have HR3 := Lib.hid (show Row W (p + 1 + 1) 0 ((upto0 RR 32 0).map (Value.int .u8)) by rw [upto0_zero]; exact hr3)
  have HK := Lib.hid hk
  clear hp hra hr2 hrz hr3 hk
  go_wp2
  go_loopw [4, 5] (fun _ c wr => ∃ i : Nat, i ≤ 32 ∧ c = .int .i64 i ∧ Keeps w wr ∧ Row wr p 0 (L.map (Value.int .u64)) ∧ Row wr (p + 1) 0 Z ∧ Row wr (p + 1 + 1) 0 ((upto0 RR 32 i).map (Value.int .u8))) (fun _ c _ => (32 - intOf c).toNat)
  case atStart => exact ⟨0, by omega, rfl, HK.out, HRA.out, HR2.out, HR3.out⟩
  case round =>
    obtain ⟨i, hi, rfl, hk, hra, hr2, hr3⟩ := hrel
    by_cases hlt : i < 32
    · have c2 := hra.int0 (3 - i / 8) (by omega)
      have c3 := hr3.int0 i (by rw [upto0_length _ _ _ htl hi]; exact hlt)
      have f3 := hr3.free0 i (by rw [List.length_map, upto0_length _ _ _ htl hi]; exact hlt)
      have hs := hr3.setInt0 i (by rw [upto0_length _ _ _ htl hi]; exact hlt) (RR.getD i 0)
      rw [upto0_set _ _ _ htl hlt] at hs
      obtain ⟨x0, x1⟩ := HRG.out (3 - i / 8) (by omega)
      have HB := Lib.hid (HBY.out i hlt)
      generalize (upto0 RR 32 i).getD i 0 = old at *
      generalize L.getD (3 - i / 8) 0 = x at *
      have HS := Lib.hid hs; have H1 := Lib.hid hra; have H2 := Lib.hid hr2; have HK2 := Lib.hid hk
      clear hs hra hr2 hr3 hk
      go_wp2
      go_roundw
      case rel => exact ⟨i + 1, by omega, by go_num, keeps_set HK2.out (by omega) _, H1.out.other (by simp; omega) _, H2.out.other (by simp) _, by rw [← HB.out] at HS; exact HS.out⟩
      case measure => simp [intOf]; omega
    · obtain rfl : i = 32 := by omega
      rw [upto0_full _ _ htl] at hr3
      have H2 := Lib.hid hr2; have H3 := Lib.hid hr3; have HK2 := Lib.hid hk
      clear hra hr2 hr3 hk
      go_wp2_with (first | (refine wpList_load_at rfl 23 (.tmp 3) rfl _ 0 rfl (RR.map (Value.int .u8)) _ H3.out Tryd.underlying23 rfl (by rw [List.length_map, htl]; exact sz_number) ?_) | (refine wpList_store_row rfl 23 (.tmp 2) (.tmp 22) rfl (p + 1) 0 rfl Z (RR.map (Value.int .u8)) rfl H2.out (by rw [List.length_map, htl, hZ]) (by rw [List.length_map, htl]; exact sz_number) (int_oneCell _) ?_; intro w9 hr9 hc9; have H9 := Lib.hid hr9; have HC9 := Lib.hid hc9; clear hr9 hc9))
      exact bodyPost_ret (v := .agg (RR.map (Value.int .u8)).toArray) (results_cell_at (p := 2) (ty := 23) rfl _ _ (p + 1) 0 _ _ rfl H9.out Tryd.underlying23 rfl (by rw [List.length_map, htl]; exact sz_number)) rfl ⟨rfl, keeps_chg HK2.out HC9.out (by omega)⟩
end Go.Proofs.YtdcoiniecmeglaaDoor
