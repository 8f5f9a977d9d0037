/- strongboxlaw06.awake: yes. strongboxlaw06.Told. No condition. -/
import Derived.Test.YthfepfpmkckdnaaDoorHkMas
import Derived.Test.YthfepfpmkckdnaaDoorHkPath
namespace Go.Proofs.YthfepfpmkckdnaaDoor
set_option linter.unusedVariables false
set_option linter.unusedSimpArgs false
open Go Go.RowKit Go.Shelf

theorem fmt_small (i : Nat) (h : i < 100) (W : World) : Calls Tryd.prog 22 #[.int .u64 i, .int .i64 10] W fun e w' => e = .returned (.string ⟨(Lib.decDigits i).toArray⟩) ∧ w' = W := by
  have h0 : (i : Int) < 100 := by omega
  have hin : Calls Tryd.prog 37 #[.int .u64 i, .int .i64 10] W fun e w' => e = .returned (.string ⟨(Lib.decDigits i).toArray⟩) ∧ w' = W := by
    go_enter Tryd.func37, Tryd.ntmps37
    go_wp2_with (go_at_call 55; refine (Tryd.internal_strconv_small i h W).mono ?_; rintro e w' ⟨rfl, rfl⟩)
    go_ret
    exact ⟨rfl, rfl⟩
  have HIN := Lib.hid hin
  clear hin
  go_enter Tryd.func22, Tryd.ntmps22
  go_wp2_with (go_at_call 37; refine HIN.out.mono ?_; rintro e w' ⟨rfl, rfl⟩)
  go_ret
  exact ⟨rfl, rfl⟩
theorem num_hard : numT 2147483648 = [48] := by
  unfold numT
  rw [show ((2147483648 : Int) % 2147483648).toNat = 0 by decide, Lib.decDigits, dif_pos (by omega)]; rfl
theorem num_one : numT 1 = [49] := by
  unfold numT
  rw [show ((1 : Int) % 2147483648).toNat = 1 by decide, Lib.decDigits, dif_pos (by omega)]; rfl
theorem path_awk : pathT [2147483648, 1] = [109, 47, 48, 39, 47, 49] := by
  unfold pathT
  rw [List.flatMap_cons, List.flatMap_cons, List.flatMap_nil, stepT_hard (by decide), stepT_soft (by decide), num_hard, num_one]; rfl
def seed0 : List Int := [0, 1, 2, 3, 4, 5, 6, 7, 8, 9, 10, 11, 12, 13, 14, 15]
theorem seed0_h : keyB (be ((seedH seed0).take 32)) = true ∧ ((seedH seed0).take 32).getD 0 0 = 232 := by decide +kernel
theorem seed0_m : masterK seed0 = (rootK ((seedH seed0).drop 32) ((seedH seed0).take 32), 0) := by
  unfold masterK
  rw [if_pos (show seedOk seed0.length = true from rfl), if_pos seed0_h.1]
theorem path_two (g : Nat) (W : World) (hr : Row W g 0 (([2147483648, 1] : List Int).map (Value.int .u32))) (hg : g < W.heap.size) : Calls Tryd.prog 11 #[.slice (some ⟨g, 0, none⟩) 2 2] W fun e w' => e = .returned (.string ⟨#[109, 47, 48, 39, 47, 49]⟩) ∧ Keeps W w' := by
  have h := path_any (.slice (some ⟨g, 0, none⟩) 2 2) 2 [2147483648, 1] W (Rd.of_row hr rfl hg (Nat.le_refl _) (by unfold maxLen; omega)) rfl (fun x hx => by
    simp only [List.mem_cons, List.not_mem_nil, or_false] at hx
    rcases hx with rfl | rfl <;> exact ⟨by omega, by omega⟩) (by rw [path_awk]; decide) (by omega) (fun x hx W => by
    simp only [List.mem_cons, List.not_mem_nil, or_false] at hx
    rcases hx with rfl | rfl
    · have := fmt_small 0 (by omega) W
      exact this
    · have := fmt_small 1 (by omega) W
      exact this)
  rw [path_awk] at h
  exact h
set_option maxRecDepth 100000 in
set_option maxHeartbeats 4000000 in
theorem awake_any (w : World) : Calls Tryd.prog 5 #[] w fun e w' => e = .returned (.bool true) ∧ Keeps w w' := by
  have hcl : ((seedH seed0).drop 32).length = 32 := by rw [List.length_drop, seedH_length]
  have hzl : ((seedH seed0).take 32).length = 32 := by rw [List.length_take, seedH_length]; omega
  have HM := Lib.hid (fun (W : World) (v : Value) (hr : Rd W 1 v 16 (seed0.map (Value.int .u8))) => master_any v 16 seed0 W hr (by unfold Bytes Byte seed0; decide) rfl)
  have h232 := seed0_h.2
  rw [seed0_m] at HM
  simp only at HM
  generalize (seedH seed0).drop 32 = CC at *
  generalize (seedH seed0).take 32 = ZZ at *
  obtain ⟨Z', rfl⟩ : ∃ Z', ZZ = 232 :: Z' := by
    cases ZZ with
    | nil => cases hzl
    | cons x r => simp [List.getD] at h232; exact ⟨r, by rw [h232]⟩
  clear h232
  have HSZ := Lib.hid (sz_root hcl hzl)
  have HLN := Lib.hid (rootK_length hcl hzl)
  have HON := Lib.hid (rootK_one CC (232 :: Z'))
  have HPR := Lib.hid (fun W => (show Calls Tryd.prog 15 #[.agg (rootK CC (232 :: Z')).toArray] W _ from private_any (d := 0) (ch := 0) (fg := Z4) rfl hcl W))
  have HD := Lib.hid (fun (W : World) (p : Nat) (hr : Row W p 0 (rootK CC (232 :: Z'))) => (key_data hr rfl hcl 1 (.int .u8 232) rfl).1)
  generalize rootK CC (232 :: Z') = K at *
  clear hcl hzl
  go_enter Tryd.func5, Tryd.ntmps5
  have HRS := Lib.hid (show Rd (w.alloc (.cells (seed0.map (Value.int .u8)).toArray 5)) 1 (.slice (some ⟨w.heap.size, 0, none⟩) 16 16) 16 (seed0.map (Value.int .u8)) from Rd.of_row (Row.new _ _ _ rfl) rfl (by simp) (by omega) (by unfold maxLen; omega))
  go_upto_region 2 with (first
    | (go_at_call 7; refine (HM.out _ _ HRS.out).mono ?_; rintro e W2 ⟨rfl, hk2⟩; have HK2 := Lib.hid hk2; clear hk2)
    | (refine wpList_store_row rfl 31 (.tmp 1) (.tmp 6) rfl W2.heap.size 0 rfl (rootK Z32k Z32k) K rfl (Row.new _ _ _ rfl) HLN.out HSZ.out HON.out ?_; intro W3 hr3 hc3; have HR3 := Lib.hid hr3; have HK3 := Lib.hid (nm_keeps_chg (nm_keeps_alloc (Keeps.refl W2) _) hc3 (Nat.le_refl _)); clear hr3 hc3))
  have HKW := Lib.hid (show Keeps w W3 from (Keeps.trans (nm_keeps_alloc (Keeps.refl w) _) HK2.out).trans HK3.out)
  clear HK2 HK3 HRS HM HLN HON
  generalize W2.heap.size = q at *
  have hTL : (ByteArray.mk #[109, 47, 48, 39, 47, 49]).toList = [109, 47, 48, 39, 47, 49] := by decide +kernel
  go_wp2_with (first
    | (refine cu_load (by kernel_rfl) 31 (.tmp 1) rfl q 0 rfl _ _ HR3.out Tryd.underlying31 rfl HSZ.out ?_)
    | (go_at_call 15; refine (HPR.out _).mono ?_; rintro e W4 ⟨rfl, hk4⟩; have HK4 := Lib.hid hk4; have c39 := HD.out _ _ (HR3.out.keeps hk4); clear hk4)
    | (go_at_call 11; refine (path_two _ _ (Row.new _ _ _ rfl) (by simp)).mono ?_; rintro e W5 ⟨rfl, hk5⟩; have HK5 := Lib.hid (show Keeps W4 W5 from Keeps.trans (nm_keeps_alloc (Keeps.refl W4) _) hk5); clear hk5))
  go_ret
  exact ⟨by first | rfl | exact ret_bool (by simp), (HKW.out.trans HK4.out).trans HK5.out⟩
end Go.Proofs.YthfepfpmkckdnaaDoor
