/- strongboxref10.Root. | block.Root, given block.Merkle. -/
import Derived.Test.YtclhjlkgmeofcaaDoorGD7
namespace Go.Proofs.YtclhjlkgmeofcaaDoor
set_option linter.unusedVariables false
set_option linter.unusedSimpArgs false
open Go Go.RowKit

def widD (d : TxD) : List Int := idD d true
theorem widD_eq (d : TxD) : dsha (encB d true) = widD d := rfl
theorem wids_ok (l : List TxD) : HsOk (l.map widD) := fun y hy => by
  obtain ⟨d, _, rfl⟩ := List.mem_map.1 hy
  exact ⟨sha_length _, sha_bytes _⟩
set_option maxRecDepth 100000 in
set_option maxHeartbeats 4000000 in
theorem rroot_any (hc : List Value) (hl : hc.length = 68) (S T R : Nat → Prop) (tv : Value) (l : List TxD) (hf : ∀ d ∈ l, Fits d) (w : World) (h : RTxs S T R w tv l) :
    Calls Tryd.prog 11 #[.agg (hc ++ [tv]).toArray] w fun e w' => e = .returned (.agg ((merkD (l.map widD)).map (Value.int .u8)).toArray) ∧ Keeps w w' := by
  have HT := Lib.hid h; have HF := Lib.hid hf
  obtain ⟨a, cap, rfl, hcap, hcm⟩ := h.any
  have hsm := h.small
  have hmo := merkD_ok (l.map widD) (wids_ok l)
  have Z32 := Lib.hid (sz_32 _ hmo.1); have HML := Lib.hid hmo.1
  have hmk : Hid (∀ W v, RH W v (l.map widD) → Calls Tryd.prog 9 #[v] W fun e w' => e = .returned (.agg ((merkD (l.map widD)).map (Value.int .u8)).toArray) ∧ Keeps W w') := Lib.hid (fun W v h => rmerkle_any _ (l.map widD) (Nat.le_refl _) v W h)
  clear h hf hmo
  generalize merkD (l.map widD) = MD at *
  go_enter Tryd.func11, Tryd.ntmps11
  go_upto_region 1 with (fail)
  refine wp_rows2 (fun W1 hk hr1 hr2 hsz => ?_)
  have hr1 : Row W1 w.heap.size 0 (hc ++ [.slice a l.length cap]) := by simpa using hr1
  have hr2 : Row W1 (w.heap.size + 1) 0 z32 := hr2
  obtain ⟨p, hp⟩ : ∃ p, p = w.heap.size := ⟨_, rfl⟩
  rw [← hp] at hr1 hr2 hsz ⊢
  have HP := Lib.hid hp; have HK := Lib.hid hk; have HR2 := Lib.hid hr2
  have HB := Lib.hid (fun W (hk : Keeps W1 W) => (blk_cell (hr1.keeps hk) hl).1)
  clear hp hk hr1 hr2 hsz
  have b0 := HB.out _ (Keeps.refl _)
  go_wp2
  go_loopw [3, 4] (fun v c wr => ∃ i : Nat, i ≤ l.length ∧ c = .int .i64 i ∧ Hid (OwnH W1 wr v ((l.take i).map widD))) (fun _ c _ => (l.length - intOf c).toNat)
  case atStart => exact ⟨0, by omega, rfl, Lib.hid (OwnH.nil _)⟩
  case round =>
    obtain ⟨i, hi, rfl, HOW⟩ := hrel
    clear b0
    have b0 := HB.out _ HOW.out.keeps
    have hil : ((l.take i).map widD).length = i := by simp; omega
    obtain ⟨va, vc, hv⟩ := HOW.out.any
    rw [hil] at hv
    subst hv
    have HIL := Lib.hid hil
    clear hil
    by_cases hlt : i < l.length
    · obtain ⟨g, off, iv, ov, d, rfl, hg, hdi, hrow, hrtx⟩ := (HT.out.keeps (HK.out.trans HOW.out.keeps)).at hlt
      have hfd := HF.out d (List.mem_of_getElem? hdi)
      have HE := Lib.hid (renc_any S T R d iv ov true hfd wr hrtx)
      have HEB := Lib.hid (hrtx.bytes true)
      have hel := enc_le d true hfd
      have HROW := Lib.hid hrow
      have HTK : Hid ((l.take (i + 1)).map widD = (l.take i).map widD ++ [dsha (encB d true)]) := Lib.hid (by rw [map_take_snoc widD l i d hdi]; rfl)
      obtain ⟨ia, ic, rfl, -⟩ := hrtx.ins.any
      obtain ⟨oa, oc, rfl, -⟩ := hrtx.outs.any
      clear hdi hrow hrtx hfd
      generalize encB d true = EB at *
      go_wp2_with (first | ((with_reducible refine gate_load 66 (.tmp 16) ?_); refine wpList_load_at rfl 66 (.tmp 16) rfl g (off + i * 4) rfl _ _ HROW.out Tryd.underlying66 rfl (sz_tx _ _ _ _) ?_) | (go_at_call 34; refine HE.out.mono ?_; rintro e W2 ⟨v2, rfl, hO2⟩; obtain ⟨a2, c2, rfl⟩ := hO2.any; have HO2 := Lib.hid hO2; clear hO2) | (go_at_call 32; refine (ref_double _ EB.length EB _ HO2.out.rd HEB.out (by omega)).mono ?_; rintro e W3 ⟨rfl, hk3⟩; have HK3 := Lib.hid hk3; clear hk3) | (refine wpList_buildSlice1 rfl 33 23 _ rfl 32 32 Tryd.underlying33 h32_info h32_zero (by decide) ((dsha EB).map (Value.int .u8)) rfl (by rw [List.length_map, dsha_length]) ?_) | (at_builtin; refine ownh_append1 rfl _ _ rfl HOW.out HIL.out (HO2.out.keeps.trans HK3.out) rfl (dsha_length EB) (dsha_bytes EB) 1 23 _ rfl rfl (by omega) ?_; intro v9 w9 h9; have H9 := Lib.hid h9; clear h9))
      have h10 := H9.out
      rw [← HTK.out] at h10
      have H10 := Lib.hid h10
      clear h10
      go_roundw
      case rel => exact ⟨i + 1, by omega, by go_num, H10⟩
      case measure => simp [intOf]; omega
    · obtain rfl : l.length = i := by omega
      rw [List.take_length] at HOW
      have hrh : RH wr (.slice va l.length vc) (l.map widD) := HOW.out.rh (by simp; omega)
      have HKW := Lib.hid HOW.out.keeps
      have HCALL := Lib.hid (hmk.out wr _ hrh)
      clear hrh HOW hmk
      go_wp2_with (first | (go_at_call 9; refine HCALL.out.mono ?_; rintro e W8 ⟨rfl, hk8⟩; have HK8 := Lib.hid hk8; clear hk8) | ((with_reducible refine gate_store 23 (.tmp 2) (.tmp 23) ?_); refine wpList_store_row rfl 23 (.tmp 2) (.tmp 23) rfl (p + 1) 0 rfl z32 (MD.map (Value.int .u8)) rfl ((HR2.out.keeps HKW.out).keeps HK8.out) (by rw [List.length_map, HML.out]; rfl) Z32.out (int_oneCell _) ?_; intro W9 hr9 hc9; have HR9 := Lib.hid hr9; have HC9 := Lib.hid hc9; clear hr9 hc9))
      refine bodyPost_ret (v := .agg (MD.map (Value.int .u8)).toArray) (results_cell_at (p := 2) (ty := 23) rfl _ _ (p + 1) 0 _ _ rfl HR9.out Tryd.underlying23 rfl Z32.out) rfl ?_
      exact ⟨rfl, keeps_chg ((HK.out.trans HKW.out).trans HK8.out) HC9.out (by have := HP.out; omega)⟩
end Go.Proofs.YtclhjlkgmeofcaaDoor
namespace Go.Proofs.YtclhjlkgmeofcaaDoor
set_option linter.unusedVariables false
set_option linter.unusedSimpArgs false
open Go Go.RowKit

set_option maxRecDepth 100000 in
set_option maxHeartbeats 4000000 in
theorem root_any (hmk0 : ∀ (l : List (List Int)) (W : World) (v : Value), RH W v l → Calls Tryd.prog 8 #[v] W fun e w' => e = .returned (.agg ((merkD l).map (Value.int .u8)).toArray) ∧ Keeps W w')
    (hc : List Value) (hl : hc.length = 68) (S T R : Nat → Prop) (tv : Value) (l : List TxD) (hf : ∀ d ∈ l, Fits d) (w : World) (h : RTxs S T R w tv l) (hS : ∀ g, S g → g < w.heap.size) :
    Calls Tryd.prog 10 #[.agg (hc ++ [tv]).toArray] w fun e w' => e = .returned (.agg ((merkD (l.map widD)).map (Value.int .u8)).toArray) ∧ Keeps w w' := by
  have HT := Lib.hid h; have HF := Lib.hid hf; have HS := Lib.hid hS
  obtain ⟨a, cap, rfl, hcap, hcm⟩ := h.any
  have hsm := h.small
  have hmo := merkD_ok (l.map widD) (wids_ok l)
  have Z32 := Lib.hid (sz_h _ hmo.1); have HML := Lib.hid hmo.1
  have hmk : Hid (∀ W v, RH W v (l.map widD) → Calls Tryd.prog 8 #[v] W fun e w' => e = .returned (.agg ((merkD (l.map widD)).map (Value.int .u8)).toArray) ∧ Keeps W w') := Lib.hid (fun W v h => hmk0 (l.map widD) W v h)
  clear h hf hmo hmk0 hS
  generalize merkD (l.map widD) = MD at *
  go_enter Tryd.func10, Tryd.ntmps10
  go_upto_region 1 with (fail)
  refine wp_rows2 (fun W1 hk hr1 hr2 hsz => ?_)
  have hr1 : Row W1 w.heap.size 0 (hc ++ [.slice a l.length cap]) := by simpa using hr1
  have hr2 : Row W1 (w.heap.size + 1) 0 z32 := hr2
  obtain ⟨p, hp⟩ : ∃ p, p = w.heap.size := ⟨_, rfl⟩
  rw [← hp] at hr1 hr2 hsz ⊢
  have HP := Lib.hid hp; have HK := Lib.hid hk; have HR2 := Lib.hid hr2
  have b0 := (blk_cell hr1 hl).1
  clear hp hk hr1 hr2 hsz
  go_wp2
  go_loopw [3, 9] (fun v c wr => ∃ i : Nat, i ≤ l.length ∧ c = .int .i64 i ∧ Hid (OwnH W1 wr v ((l.take i).map widD))) (fun _ c _ => (l.length - intOf c).toNat)
  case atStart => exact ⟨0, by omega, rfl, Lib.hid (OwnH.nil _)⟩
  case round =>
    obtain ⟨i, hi, rfl, HOW⟩ := hrel
    have hil : ((l.take i).map widD).length = i := by simp; omega
    obtain ⟨va, vc, hv⟩ := HOW.out.any
    rw [hil] at hv
    subst hv
    have HIL := Lib.hid hil
    clear hil
    by_cases hlt : i < l.length
    · obtain ⟨g, off, iv, ov, d, rfl, hg, hdi, hrow, hrtx⟩ := (HT.out.keeps (HK.out.trans HOW.out.keeps)).at hlt
      have hfd := HF.out d (List.mem_of_getElem? hdi)
      have HE := Lib.hid (fun W (hk : Keeps wr W) => wid_any S T R d iv ov hfd W (hrtx.keeps hk) (fun g hg => Nat.lt_of_lt_of_le (HS.out g hg) ((HK.out.trans HOW.out.keeps).trans hk).size))
      have HROW := Lib.hid hrow
      have HTK : Hid ((l.take (i + 1)).map widD = (l.take i).map widD ++ [idD d true]) := Lib.hid (by rw [map_take_snoc widD l i d hdi]; rfl)
      have hih : (idD d true).length = 32 ∧ Bytes (idD d true) := ⟨sha_length _, sha_bytes _⟩
      have HIH := Lib.hid hih
      obtain ⟨ia, ic, rfl, -⟩ := hrtx.ins.any
      obtain ⟨oa, oc, rfl, -⟩ := hrtx.outs.any
      clear hdi hrow hrtx hfd hih
      generalize idD d true = ID at *
      go_upto_region 5 with (first | ((with_reducible refine gate_load 66 (.tmp 11) ?_); refine wpList_load_at rfl 66 (.tmp 11) rfl g (off + i * 4) rfl _ _ HROW.out Tryd.underlying66 rfl (sz_tx _ _ _ _) ?_) | ((with_reducible refine gate_store 66 (.tmp 5) (.tmp 12) ?_); refine wpList_store_row rfl 66 (.tmp 5) (.tmp 12) rfl _ 0 rfl _ (txCells d _ _) rfl (Row.new [.int .i32 0, .slice none 0 0, .slice none 0 0, .int .u32 0] _ _ rfl) rfl (sz_tx _ _ _ _) (four_one _ _ _ _ _ _ _ _) ?_; intro W5 hr5 hc5; have HR5 := Lib.hid hr5; have HC5 := Lib.hid hc5; clear hr5 hc5))
      have HK5 := Lib.hid (keeps_chg (keeps_alloc (Keeps.refl wr) _) HC5.out (Nat.le_refl _))
      obtain ⟨q, hq⟩ : ∃ q, q = wr.heap.size := ⟨_, rfl⟩
      rw [← hq] at HR5 ⊢
      clear hq HC5
      go_wp2_with (first | ((with_reducible refine gate_load 66 (.tmp 5) ?_); refine wpList_load_at rfl 66 (.tmp 5) rfl q 0 rfl _ _ HR5.out Tryd.underlying66 rfl (sz_tx _ _ _ _) ?_) | (go_at_call 33; refine (HE.out _ HK5.out).mono ?_; rintro e W3 ⟨rfl, hk3⟩; have HK3 := Lib.hid hk3; clear hk3) | (refine wpList_buildSlice1 rfl 22 24 _ rfl 32 32 Tryd.underlying22 hash_info hash_zero (by decide) (ID.map (Value.int .u8)) rfl (by rw [List.length_map, HIH.out.1]) ?_) | (at_builtin; refine ownh_append1' rfl _ _ rfl HOW.out HIL.out (HK5.out.trans HK3.out) rfl HIH.out.1 HIH.out.2 1 24 _ rfl rfl (by omega) ?_; intro v9 w9 h9; have H9 := Lib.hid h9; clear h9))
      have h10 := H9.out
      rw [← HTK.out] at h10
      have H10 := Lib.hid h10
      clear h10
      go_roundw
      case rel => exact ⟨i + 1, by omega, by go_num, H10⟩
      case measure => simp [intOf]; omega
    · obtain rfl : l.length = i := by omega
      rw [List.take_length] at HOW
      have hrh : RH wr (.slice va l.length vc) (l.map widD) := HOW.out.rh (by simp; omega)
      have HKW := Lib.hid HOW.out.keeps
      have HCALL := Lib.hid (hmk.out wr _ hrh)
      clear hrh HOW hmk
      go_wp2_with (first | (go_at_call 8; refine HCALL.out.mono ?_; rintro e W8 ⟨rfl, hk8⟩; have HK8 := Lib.hid hk8; clear hk8) | ((with_reducible refine gate_store 24 (.tmp 2) (.tmp 20) ?_); refine wpList_store_row rfl 24 (.tmp 2) (.tmp 20) rfl (p + 1) 0 rfl z32 (MD.map (Value.int .u8)) rfl ((HR2.out.keeps HKW.out).keeps HK8.out) (by rw [List.length_map, HML.out]; rfl) Z32.out (int_oneCell _) ?_; intro W9 hr9 hc9; have HR9 := Lib.hid hr9; have HC9 := Lib.hid hc9; clear hr9 hc9))
      refine bodyPost_ret (v := .agg (MD.map (Value.int .u8)).toArray) (results_cell_at (p := 2) (ty := 24) rfl _ _ (p + 1) 0 _ _ rfl HR9.out Tryd.underlying24 rfl Z32.out) rfl ?_
      exact ⟨rfl, keeps_chg ((HK.out.trans HKW.out).trans HK8.out) HC9.out (by have := HP.out; omega)⟩
end Go.Proofs.YtclhjlkgmeofcaaDoor
