/- Size, Weight, Virtual; how many bytes a cut transaction has. -/
import Derived.Test.YtjfkkdkmpnpmpaaTxEncP
import Derived.Test.YtjfkkdkmpnpmpaaTxFewS
namespace Go.Proofs.Ytjfkkdkmpnpmpaa
set_option linter.unusedVariables false
set_option linter.unusedSimpArgs false
open Go Go.RowKit

theorem fits_few (d : TxD) (h : d.ins.all (fun i => i.hash.length == 32) = true) : Fits (fewD 10 600 d) := by
  have ht : ∀ l : List Int, l.length ≤ 600 → (textB l).length ≤ 609 := fun l hl => by
    have := sizeB_len (l.length : Int)
    unfold textB; rw [List.length_append]; omega
  have h1 : ((fewD 10 600 d).ins.flatMap inB).length ≤ 10 * 649 := by
    refine Nat.le_trans (flat_le inB 649 _ (fun x hx => ?_)) (Nat.mul_le_mul_right _ (by simp [fewD]; omega))
    obtain ⟨y, hy, rfl⟩ := List.mem_map.1 hx
    have h32 : y.hash.length = 32 := by have := List.all_eq_true.1 h y (List.mem_of_mem_take hy); simpa using this
    have := ht (y.script.take 600) (by simp; omega)
    unfold inB trimIn
    simp only [List.length_append, leB_length]
    omega
  have h2 : ((fewD 10 600 d).outs.flatMap outB).length ≤ 10 * 617 := by
    refine Nat.le_trans (flat_le outB 617 _ (fun x hx => ?_)) (Nat.mul_le_mul_right _ (by simp [fewD]; omega))
    obtain ⟨y, hy, rfl⟩ := List.mem_map.1 hx
    have := ht (y.script.take 600) (by simp; omega)
    unfold outB trimOut
    simp only [List.length_append, leB_length]
    omega
  have h3 : ((fewD 10 600 d).ins.flatMap witB).length ≤ 10 * 6099 := by
    refine Nat.le_trans (flat_le witB 6099 _ (fun x hx => ?_)) (Nat.mul_le_mul_right _ (by simp [fewD]; omega))
    obtain ⟨y, hy, rfl⟩ := List.mem_map.1 hx
    have hs := sizeB_len ((trimIn 10 600 y).wit.length : Int)
    have hw : ((trimIn 10 600 y).wit.flatMap textB).length ≤ 10 * 609 := by
      refine Nat.le_trans (flat_le textB 609 _ (fun z hz => ?_)) (Nat.mul_le_mul_right _ (by simp [trimIn]; omega))
      obtain ⟨q, hq, rfl⟩ := List.mem_map.1 hz
      exact ht _ (by simp; omega)
    unfold witB
    rw [List.length_append]
    omega
  have s1 := sizeB_len ((fewD 10 600 d).ins.length : Int)
  have s2 := sizeB_len ((fewD 10 600 d).outs.length : Int)
  unfold Fits insB outsB
  rw [List.length_append, List.length_append]
  omega
theorem enc_le (d : TxD) (wit : Bool) (h : Fits d) : (encB d wit).length ≤ 1000000000010 := by
  unfold Fits at h
  unfold encB
  simp only [List.length_append, leB_length]
  by_cases hc : (wit && witnessedD d) = true
  · rw [if_pos hc, if_pos hc]; simp only [List.length_cons, List.length_nil]; omega
  · rw [if_neg hc, if_neg hc]; simp only [List.length_nil]; omega
set_option maxRecDepth 100000 in
theorem size_any2 (S T R : Nat → Prop) (d : TxD) (iv ov : Value) (hf : Fits d) (w : World) (h : RTx S T R w iv ov d) (hS : ∀ g, S g → g < w.heap.size) :
    Calls Try.prog 24 #[.agg #[.int .i32 d.ver, iv, ov, .int .u32 d.lock]] w fun e w' => e = .returned (.int .i64 (encB d true).length) ∧ Keeps w w' := by
  have HT := Lib.hid h; have HS := Lib.hid hS
  obtain ⟨ia, ic, rfl, -⟩ := h.ins.any
  obtain ⟨oa, oc, rfl, -⟩ := h.outs.any
  have hle := enc_le d true hf
  clear h hS
  have HENC := Lib.hid (fun W (hk : Keeps w W) => enc_any S T R d _ _ true hf W (HT.out.keeps hk) (fun g hg => Nat.lt_of_lt_of_le (HS.out g hg) hk.size))
  generalize encB d true = EB at *
  go_enter Try.func24, Try.ntmps24
  go_upto_region 1 with (fail)
  refine wp_rows1 (fun W0 hk hr1 hs1 => ?_)
  simp only at hr1
  obtain ⟨b0, b1, b2, b3⟩ := hr1.cell4
  have HK := Lib.hid hk
  clear hk hr1 hs1
  go_wp2_with (go_at_call 28; refine (HENC.out _ HK.out).mono ?_; rintro e W2 ⟨v2, rfl, hO2⟩; obtain ⟨a2, c2, rfl⟩ := hO2.any; have HO2 := Lib.hid hO2; clear hO2)
  go_ret
  exact ⟨rfl, HK.out.trans HO2.out.keeps⟩
set_option maxRecDepth 100000 in
set_option maxHeartbeats 1000000 in
theorem weight_any (S T R : Nat → Prop) (d : TxD) (iv ov : Value) (hf : Fits d) (w : World) (h : RTx S T R w iv ov d) (hS : ∀ g, S g → g < w.heap.size) :
    Calls Try.prog 25 #[.agg #[.int .i32 d.ver, iv, ov, .int .u32 d.lock]] w fun e w' => e = .returned (.int .i64 (3 * (encB d false).length + (encB d true).length)) ∧ Keeps w w' := by
  have HT := Lib.hid h; have HS := Lib.hid hS
  obtain ⟨ia, ic, rfl, -⟩ := h.ins.any
  obtain ⟨oa, oc, rfl, -⟩ := h.outs.any
  have hle := enc_le d true hf
  have hle2 := enc_le d false hf
  clear h hS
  have HENC := Lib.hid (fun W (hk : Keeps w W) => enc_any S T R d _ _ false hf W (HT.out.keeps hk) (fun g hg => Nat.lt_of_lt_of_le (HS.out g hg) hk.size))
  have HSZ := Lib.hid (fun W (hk : Keeps w W) => size_any2 S T R d _ _ hf W (HT.out.keeps hk) (fun g hg => Nat.lt_of_lt_of_le (HS.out g hg) hk.size))
  generalize encB d true = EB at *
  generalize encB d false = EC at *
  go_enter Try.func25, Try.ntmps25
  go_upto_region 1 with (fail)
  refine wp_rows1 (fun W0 hk hr1 hs1 => ?_)
  simp only at hr1
  have HK := Lib.hid hk; have HR := Lib.hid hr1
  clear hk hr1 hs1
  generalize w.heap.size = p at *
  refine wp_region_head (S := fun W => Hid ((fun W => Keeps W0 W) W)) 6 (by kernel_rfl) (by kernel_rfl) ?_ (fun hHeld => ?_)
  focus exact Lib.hid (keeps_drew (Keeps.refl _))
  refine wpAnyHL_take (i := 0) (oi := ?_) (v := ?_) ?_ ?_ ?_ ?_ ?_ ?_ ?_ ?_ ?_ (Or.inl ⟨?_, ?_⟩) ?_ ?_
  rotate_left 2
  focus (simp only [List.getElem?_toArray, List.getElem?_cons_succ, List.getElem?_cons_zero]; exact rfl)
  focus kernel_rfl
  focus kernel_rfl
  focus kernel_rfl
  focus kernel_rfl
  focus kernel_rfl
  focus kernel_rfl
  focus kernel_rfl
  focus (exact fun _ _ _ h => h)
  focus rfl
  focus (intro wSw hSw; (have hSw := hSw.out); (refine run_load_row 26 (.tmp 1) ?_ p 0 ?_ _ _ (HR.out.keeps hSw) Try.underlying26 rfl (sz_tx _ _ _ _)) <;> rfl)
  focus assumption
  try simp only [Act.put, List.setIfInBounds_toArray, List.set_cons_zero, List.set_cons_succ]
  refine wpAnyHL_take (i := 4) (oi := ?_) (v := ?_) ?_ ?_ ?_ ?_ ?_ ?_ ?_ ?_ ?_ (Or.inl ⟨?_, ?_⟩) ?_ ?_
  rotate_left 2
  focus (simp only [List.getElem?_toArray, List.getElem?_cons_succ, List.getElem?_cons_zero]; exact rfl)
  focus kernel_rfl
  focus kernel_rfl
  focus kernel_rfl
  focus kernel_rfl
  focus kernel_rfl
  focus kernel_rfl
  focus kernel_rfl
  focus (exact fun _ _ _ h => h)
  focus rfl
  focus (intro wSw hSw; (have hSw := hSw.out); (refine run_load_row 26 (.tmp 1) ?_ p 0 ?_ _ _ (HR.out.keeps hSw) Try.underlying26 rfl (sz_tx _ _ _ _)) <;> rfl)
  focus assumption
  try simp only [Act.put, List.setIfInBounds_toArray, List.set_cons_zero, List.set_cons_succ]
  refine wpAnyHL_one (i := 1) (o := ?_) (by kernel_rfl) (by kernel_rfl) ?_ ?_
  rotate_left 1
  focus (simp only [List.getElem?_toArray, List.getElem?_cons_succ, List.getElem?_cons_zero]; exact rfl)
  go_wp2_with (go_at_call 28; refine (HENC.out _ (HK.out.trans hHeld.out)).mono ?_; rintro e W2 ⟨v2, rfl, hO2⟩; obtain ⟨a2, c2, rfl⟩ := hO2.any; have HO2 := Lib.hid hO2; clear hO2)
  try dsimp only [StepQ]
  refine ⟨?_, fun hHeld => ?_⟩
  focus (exact Lib.hid (hHeld.out.trans HO2.out.keeps))
  try simp only [Act.put, List.setIfInBounds_toArray, List.set_cons_zero, List.set_cons_succ]
  refine wpAnyHL_take (i := 2) (oi := ?_) (v := ?_) ?_ ?_ ?_ ?_ ?_ ?_ ?_ ?_ ?_ (Or.inl ⟨?_, ?_⟩) ?_ ?_
  rotate_left 2
  focus (simp only [List.getElem?_toArray, List.getElem?_cons_succ, List.getElem?_cons_zero]; exact rfl)
  focus kernel_rfl
  focus kernel_rfl
  focus kernel_rfl
  focus kernel_rfl
  focus kernel_rfl
  focus kernel_rfl
  focus kernel_rfl
  focus (exact fun _ _ _ h => h)
  focus rfl
  focus ((intro wSw hSw; (have hSw := hSw.out); (try dsimp only at hSw); go_simp) <;> with_reducible rfl)
  focus assumption
  try simp only [Act.put, List.setIfInBounds_toArray, List.set_cons_zero, List.set_cons_succ]
  refine wpAnyHL_take (i := 3) (oi := ?_) (v := ?_) ?_ ?_ ?_ ?_ ?_ ?_ ?_ ?_ ?_ (Or.inl ⟨?_, ?_⟩) ?_ ?_
  rotate_left 2
  focus (simp only [List.getElem?_toArray, List.getElem?_cons_succ, List.getElem?_cons_zero]; exact rfl)
  focus kernel_rfl
  focus kernel_rfl
  focus kernel_rfl
  focus kernel_rfl
  focus kernel_rfl
  focus kernel_rfl
  focus kernel_rfl
  focus (exact fun _ _ _ h => h)
  focus rfl
  focus ((intro wSw hSw; (have hSw := hSw.out); (try dsimp only at hSw); go_simp) <;> with_reducible rfl)
  focus assumption
  try simp only [Act.put, List.setIfInBounds_toArray, List.set_cons_zero, List.set_cons_succ]
  refine wpAnyHL_one (i := 5) (o := ?_) (by kernel_rfl) (by kernel_rfl) ?_ ?_
  rotate_left 1
  focus (simp only [List.getElem?_toArray, List.getElem?_cons_succ, List.getElem?_cons_zero]; exact rfl)
  go_wp2_with (go_at_call 24; refine (HSZ.out _ (HK.out.trans hHeld.out)).mono ?_; rintro e W3 ⟨rfl, hk3⟩; have HK3 := Lib.hid hk3; clear hk3)
  try dsimp only [StepQ]
  refine ⟨?_, fun hHeld => ?_⟩
  focus (exact Lib.hid (hHeld.out.trans HK3.out))
  try simp only [Act.put, List.setIfInBounds_toArray, List.set_cons_zero, List.set_cons_succ]
  refine wpAnyHL_done (by kernel_rfl) ?_
  try simp only [List.drop_succ_cons, List.drop_zero]
  go_wp2
  go_ret
  exact ⟨rfl, HK.out.trans hHeld.out⟩
set_option maxRecDepth 100000 in
theorem virtual_any (S T R : Nat → Prop) (d : TxD) (iv ov : Value) (hf : Fits d) (w : World) (h : RTx S T R w iv ov d) (hS : ∀ g, S g → g < w.heap.size) :
    Calls Try.prog 27 #[.agg #[.int .i32 d.ver, iv, ov, .int .u32 d.lock]] w fun e w' => e = .returned (.int .i64 ((3 * (encB d false).length + (encB d true).length + 3) / 4)) ∧ Keeps w w' := by
  have HT := Lib.hid h; have HS := Lib.hid hS
  obtain ⟨ia, ic, rfl, -⟩ := h.ins.any
  obtain ⟨oa, oc, rfl, -⟩ := h.outs.any
  have hle := enc_le d true hf
  have hle2 := enc_le d false hf
  clear h hS
  have HSZ := Lib.hid (fun W (hk : Keeps w W) => weight_any S T R d _ _ hf W (HT.out.keeps hk) (fun g hg => Nat.lt_of_lt_of_le (HS.out g hg) hk.size))
  generalize encB d true = EB at *
  generalize encB d false = EC at *
  go_enter Try.func27, Try.ntmps27
  go_upto_region 1 with (fail)
  refine wp_rows1 (fun W0 hk hr1 hs1 => ?_)
  simp only at hr1
  obtain ⟨b0, b1, b2, b3⟩ := hr1.cell4
  have HK := Lib.hid hk
  clear hk hr1 hs1
  go_wp2_with (go_at_call 25; refine (HSZ.out _ HK.out).mono ?_; rintro e W2 ⟨rfl, hk2⟩; have HK2 := Lib.hid hk2; clear hk2)
  go_ret
  refine ⟨?_, HK.out.trans HK2.out⟩
  congr 2
end Go.Proofs.Ytjfkkdkmpnpmpaa
