/- strongboxref10.Merkle. | strongboxref10.Root. | What Check says of a block, in plain Lean; a map of names that were seen. No condition. -/
import Derived.Test.YtclhjlkgmeofcaaDoorGD6
import Derived.Test.YtclhjlkgmeofcaaDoorGB8
import Derived.Test.YtclhjlkgmeofcaaDoorGD3
import Derived.Test.YtclhjlkgmeofcaaDoorGD5
namespace Go.Proofs.YtclhjlkgmeofcaaDoor
set_option linter.unusedVariables false
set_option linter.unusedSimpArgs false
open Go Go.RowKit

theorem min_next (l : List (List Int)) (k : Nat) (h : 2 * k < l.length) : (2 * k + 1 < l.length → pairD l k = dsha (l.getD (2 * k) [] ++ l.getD (2 * k + 1) [])) ∧ (¬ 2 * k + 1 < l.length → pairD l k = dsha (l.getD (2 * k) [] ++ l.getD (2 * k) [])) := by
  constructor
  · intro h2; unfold pairD; rw [Nat.min_eq_left (by omega)]
  · intro h2; unfold pairD; rw [Nat.min_eq_right (by omega), show l.length - 1 = 2 * k by omega]
def z32 : List Value := [.int .u8 0, .int .u8 0, .int .u8 0, .int .u8 0, .int .u8 0, .int .u8 0, .int .u8 0, .int .u8 0, .int .u8 0, .int .u8 0, .int .u8 0, .int .u8 0, .int .u8 0, .int .u8 0, .int .u8 0, .int .u8 0, .int .u8 0, .int .u8 0, .int .u8 0, .int .u8 0, .int .u8 0, .int .u8 0, .int .u8 0, .int .u8 0, .int .u8 0, .int .u8 0, .int .u8 0, .int .u8 0, .int .u8 0, .int .u8 0, .int .u8 0, .int .u8 0]
theorem z32_zero : z32 = zeroH.map (Value.int .u8) := by simp [z32, zeroH, List.replicate]
theorem map32_ne {h : List Int} (hl : h.length = 32) : h.map (Value.int .u8) ≠ [] := by
  intro e
  have := congrArg List.length e
  rw [List.length_map, hl] at this
  simp at this
theorem row_rd32 {W : World} {q : Nat} {h : List Int} (hr : Row W q 0 (h.map (Value.int .u8))) (hl : h.length = 32) : Rd W 1 (.slice (some ⟨q, 0, none⟩) 32 32) 32 (h.map (Value.int .u8)) :=
  Rd.of_row hr (by simp [hl]) (hr.lt (map32_ne hl)) (Nat.le_refl _) (by unfold maxLen; omega)
set_option maxRecDepth 100000 in
set_option maxHeartbeats 2000000 in
theorem rmerkle_small (l : List (List Int)) (hs : l.length ≤ 1) (v : Value) (w : World) (h : RH w v l) :
    Calls Tryd.prog 9 #[v] w fun e w' => e = .returned (.agg ((merkD l).map (Value.int .u8)).toArray) ∧ Keeps w w' := by
  have HH := Lib.hid h
  obtain ⟨a, cap, rfl, hcap, hcm⟩ := h.any
  have hmo := merkD_ok l h.ok
  have Z32 := Lib.hid (sz_32 _ hmo.1)
  have HML := Lib.hid hmo.1
  have hms := merkD_small l hs
  have hok := h.ok
  clear h hmo
  have H0 : ∀ (W : World), Row (W.alloc (.cells z32.toArray 23)) W.heap.size 0 z32 := fun W => Row.new _ _ _ rfl
  have HR0 := Lib.hid H0
  clear H0
  cases l with
  | nil =>
    have HM0 : Hid ((merkD []).map (Value.int .u8) = z32) := Lib.hid (by rw [hms, z32_zero]; rfl)
    have HZ0 : ∀ (W : World) (a : Act) (o : Oper), o.op = .build 23 #[] → (execOp a.eval o).run Tryd.prog W = .ok (.value (.agg z32.toArray)) W := fun W a o ho => by
      unfold execOp; rw [ho]; kernel_rfl
    have HZ := Lib.hid HZ0
    clear HZ0 hms hok
    rw [HM0.out] at Z32 ⊢
    have HZL : Hid (z32.length = 32) := Lib.hid rfl
    have HZ1 : Hid (∀ v ∈ z32, v.oneCell' = true) := Lib.hid (by rw [z32_zero]; exact int_oneCell _)
    go_enter Tryd.func9, Tryd.ntmps9
    go_upto_region 1 with (fail)
    refine wp_gen (fun W => Keeps w W ∧ Row W w.heap.size 0 z32) ⟨keeps_alloc (Keeps.refl w) _, HR0.out w⟩ ?_
    intro W1 ⟨hk, hr⟩
    have HK := Lib.hid hk; have HR := Lib.hid hr
    clear hk hr
    generalize hZ : z32 = ZZ at *
    have HZE := Lib.hid hZ
    clear hZ
    go_wp2_with (first | (refine wpList_zero_on (by kernel_rfl) 23 rfl _ (HZ.out _ _ _ rfl) ?_) | ((with_reducible refine gate_store 23 (.tmp 2) (.tmp 10) ?_); refine wpList_store_row rfl 23 (.tmp 2) (.tmp 10) rfl w.heap.size 0 rfl ZZ ZZ rfl HR.out rfl Z32.out HZ1.out ?_; intro W9 hr9 hc9; have HR9 := Lib.hid hr9; have HC9 := Lib.hid hc9; clear hr9 hc9))
    refine bodyPost_ret (v := .agg ZZ.toArray) (results_cell_at (p := 2) (ty := 23) rfl _ _ w.heap.size 0 _ _ rfl HR9.out Tryd.underlying23 rfl Z32.out) rfl ?_
    exact ⟨by rw [HZE.out], keeps_chg HK.out HC9.out (Nat.le_refl _)⟩
  | cons x r =>
    obtain rfl : r = [] := List.eq_nil_of_length_eq_zero (by simpa using hs)
    have hx := hok x (by simp)
    rw [hms] at Z32 HML ⊢
    simp only [List.headD_cons] at Z32 HML ⊢
    obtain ⟨g, off, e, hg, hrow⟩ := HH.out.at (i := 0) (by simp)
    subst e
    rw [Nat.zero_mul, Nat.add_zero] at hrow
    have hrow : Row w g off (x.map (Value.int .u8)) := hrow
    have HROW := Lib.hid hrow
    clear hrow hms hok hx
    go_enter Tryd.func9, Tryd.ntmps9
    go_upto_region 1 with (fail)
    refine wp_gen (fun W => Keeps w W ∧ Row W w.heap.size 0 z32) ⟨keeps_alloc (Keeps.refl w) _, HR0.out w⟩ ?_
    intro W1 ⟨hk, hr⟩
    have HK := Lib.hid hk; have HR := Lib.hid hr
    clear hk hr
    go_wp2_with (first | ((with_reducible refine gate_load 23 (.tmp 15) ?_); refine wpList_load_at rfl 23 (.tmp 15) rfl g off rfl _ _ (HROW.out.keeps HK.out) Tryd.underlying23 rfl Z32.out ?_) | ((with_reducible refine gate_store 23 (.tmp 2) (.tmp 16) ?_); refine wpList_store_row rfl 23 (.tmp 2) (.tmp 16) rfl w.heap.size 0 rfl z32 (x.map (Value.int .u8)) rfl HR.out (by rw [List.length_map, HML.out]; rfl) Z32.out (int_oneCell _) ?_; intro W9 hr9 hc9; have HR9 := Lib.hid hr9; have HC9 := Lib.hid hc9; clear hr9 hc9))
    refine bodyPost_ret (v := .agg (x.map (Value.int .u8)).toArray) (results_cell_at (p := 2) (ty := 23) rfl _ _ w.heap.size 0 _ _ rfl HR9.out Tryd.underlying23 rfl Z32.out) rfl ?_
    exact ⟨rfl, keeps_chg HK.out HC9.out (Nat.le_refl _)⟩
set_option maxRecDepth 100000 in
set_option maxHeartbeats 8000000 in
theorem rmerkle_any : ∀ (N : Nat) (l : List (List Int)) (_ : l.length ≤ N) (v : Value) (w : World) (_ : RH w v l),
    Calls Tryd.prog 9 #[v] w fun e w' => e = .returned (.agg ((merkD l).map (Value.int .u8)).toArray) ∧ Keeps w w' := by
  intro N
  induction N with
  | zero => exact fun l hN v w h => rmerkle_small l (by omega) v w h
  | succ N IH =>
    intro l hN v w h
    have HH := Lib.hid h; have HIH := Lib.hid IH
    obtain ⟨a, cap, rfl, hcap, hcm⟩ := h.any
    have hsm := h.small
    have hmo := merkD_ok l h.ok
    clear h IH
    by_cases h2 : l.length ≤ 1
    · exact rmerkle_small l h2 _ w HH.out
    · have hup := merkD_up l h2
      have hul := upD_length l
      have HUP := Lib.hid hup
      have Z32 := Lib.hid (sz_32 _ hmo.1)
      have HML := Lib.hid hmo.1
      clear hup hmo
      generalize merkD l = MD at *
      have hz0 : ((l.length : Int) == 0) = false := beq_eq_false_iff_ne.2 (by omega)
      have hz1 : ((l.length : Int) == 1) = false := beq_eq_false_iff_ne.2 (by omega)
      go_enter Tryd.func9, Tryd.ntmps9
      go_upto_region 1 with (fail)
      have hk0 : Keeps w (w.alloc (.cells z32.toArray 23)) := keeps_alloc (Keeps.refl w) _
      have hr0 : Row (w.alloc (.cells z32.toArray 23)) w.heap.size 0 z32 := Row.new _ _ _ rfl
      refine wp_gen (fun W => Keeps w W ∧ Row W w.heap.size 0 z32) ⟨hk0, hr0⟩ ?_
      clear hk0 hr0
      intro W1 ⟨hk, hr⟩
      have HK := Lib.hid hk; have HR := Lib.hid hr
      clear hk hr
      obtain ⟨p, hp⟩ : ∃ p, p = w.heap.size := ⟨_, rfl⟩
      rw [← hp] at HR ⊢
      have HP := Lib.hid hp
      clear hp
      go_upto_region 5 with (fail)
      clear hz0 hz1
      go_wp2
      go_loopw [3, 4] (fun v c wr => ∃ k j : Nat, k ≤ (l.length + 1) / 2 ∧ c = .int .i64 (j : Int) ∧ j ≤ l.length + 1 ∧ Hid (j = 2 * k) ∧ Hid (OwnH W1 wr v ((upD l).take k))) (fun _ c _ => (l.length + 2 - intOf c).toNat)
      case atStart => exact ⟨0, 0, by omega, rfl, by omega, Lib.hid rfl, Lib.hid (OwnH.nil _)⟩
      case round =>
        obtain ⟨k, j, hk, rfl, hjl, HJ, HOW⟩ := hrel
        have hil : ((upD l).take k).length = k := by rw [List.length_take, hul]; omega
        obtain ⟨va, vc, hv⟩ := HOW.out.any
        rw [hil] at hv
        subst hv
        have HIL := Lib.hid hil
        clear hil
        by_cases hlt : j < l.length
        · have hpair := min_next l k (by have := HJ.out; omega)
          have htk := upD_take l k (by have := HJ.out; omega)
          have hok := HH.out.ok.getD (i := j) hlt
          have hnx : j + 1 < l.length → (l.getD (j + 1) []).length = 32 ∧ Bytes (l.getD (j + 1) []) := fun h => HH.out.ok.getD h
          have hrwx : ∀ W, Keeps wr W → j + 1 < l.length → ∃ g off, a = some ⟨g, off, none⟩ ∧ Row W g (off + (j + 1) * 32) ((l.getD (j + 1) []).map (Value.int .u8)) := fun W hk h => by
            obtain ⟨g, off, e, _, hr⟩ := (HH.out.keeps ((HK.out.trans HOW.out.keeps).trans hk)).at (i := j + 1) h
            exact ⟨g, off, e, hr⟩
          have HRX := Lib.hid hrwx; have HNX := Lib.hid hnx
          clear hrwx hnx
          obtain ⟨g, off, rfl, hg, hrow⟩ := (HH.out.keeps (HK.out.trans HOW.out.keeps)).at (i := j) hlt
          rw [← HJ.out] at hpair
          have HTK := Lib.hid htk; have HROW := Lib.hid hrow; have HOK := Lib.hid hok; have HPAIR := Lib.hid hpair
          clear htk hrow hok hpair
          generalize l.getD j [] = A at *
          generalize l.getD (j + 1) [] = B at *
          generalize hPD : pairD l k = PD at *
          clear hPD
          have hAl := HOK.out.1
          have HAL := Lib.hid hAl
          clear hAl
          go_upto_region 10 with (first | ((with_reducible refine gate_load 23 (.tmp 25) ?_); refine wpList_load_at rfl 23 (.tmp 25) rfl g (off + j * 32) rfl _ _ HROW.out Tryd.underlying23 rfl (sz_32 _ HAL.out) ?_) | ((with_reducible refine gate_store 23 (.tmp 5) (.tmp 26) ?_); refine wpList_store_row rfl 23 (.tmp 5) (.tmp 26) rfl _ 0 rfl z32 (A.map (Value.int .u8)) rfl (Row.new _ _ _ rfl) (by rw [List.length_map, HAL.out]; rfl) (sz_32 _ HAL.out) (int_oneCell _) ?_; intro W5 hr5 hc5; have HR5 := Lib.hid hr5; have HC5 := Lib.hid hc5; clear hr5 hc5))
          have HK5 := Lib.hid (keeps_chg (keeps_alloc (Keeps.refl wr) _) HC5.out (Nat.le_refl _))
          obtain ⟨q, hq⟩ : ∃ q, q = wr.heap.size := ⟨_, rfl⟩
          rw [← hq] at HR5 ⊢
          clear hq HC5
          go_upto_region 11 with (first | ((with_reducible refine gate_load 23 (.tmp 5) ?_); refine wpList_load_at rfl 23 (.tmp 5) rfl q 0 rfl _ _ HR5.out Tryd.underlying23 rfl (sz_32 _ HAL.out) ?_) | ((with_reducible refine gate_store 23 (.tmp 6) (.tmp 27) ?_); refine wpList_store_row rfl 23 (.tmp 6) (.tmp 27) rfl _ 0 rfl z32 (A.map (Value.int .u8)) rfl (Row.new _ _ _ rfl) (by rw [List.length_map, HAL.out]; rfl) (sz_32 _ HAL.out) (int_oneCell _) ?_; intro W6 hr6 hc6; have HR6 := Lib.hid hr6; have HC6 := Lib.hid hc6; clear hr6 hc6))
          have hk56 : Keeps W5 W6 := keeps_chg (keeps_alloc (Keeps.refl W5) _) HC6.out (Nat.le_refl _)
          have HK6 := Lib.hid (HK5.out.trans hk56)
          have HR5' := Lib.hid (HR5.out.keeps hk56)
          have hlt6 : W5.heap.size < W6.heap.size := HR6.out.lt (map32_ne HAL.out)
          obtain ⟨q6, hq6⟩ : ∃ q, q = W5.heap.size := ⟨_, rfl⟩
          have hqq : q < q6 := by rw [hq6]; exact HR5.out.lt (map32_ne HAL.out)
          have hw6 : wr.heap.size ≤ q6 := by rw [hq6]; exact HK5.out.size
          rw [← hq6] at HR6 ⊢
          clear hq6 hk56 HC6 HR5 HK5 hlt6
          have hsp : (j + 1 < l.length ∧ PD = dsha (A ++ B) ∧ B.length = 32) ∨ (¬ j + 1 < l.length ∧ PD = dsha (A ++ A)) := by
            by_cases h : j + 1 < l.length
            · exact .inl ⟨h, HPAIR.out.1 h, (HNX.out h).1⟩
            · exact .inr ⟨h, HPAIR.out.2 h⟩
          clear HPAIR
          rcases hsp with ⟨hb, hpd, hbl⟩ | ⟨hb, hpd⟩
          all_goals
            have HPD := Lib.hid hpd
            clear hpd
            first
              | (obtain ⟨g2, off2, e2, hrow2⟩ := HRX.out _ HK6.out hb
                 obtain ⟨rfl, rfl⟩ : g = g2 ∧ off = off2 := by have := Option.some.inj e2; simp at this; exact this
                 have HROW2 := Lib.hid hrow2; have HBL := Lib.hid hbl
                 clear hrow2 e2 hbl
                 go_upto_region 13 with (first | ((with_reducible refine gate_load 23 (.tmp 36) ?_); refine wpList_load_at rfl 23 (.tmp 36) rfl g (off + (j + 1) * 32) rfl _ _ HROW2.out Tryd.underlying23 rfl (sz_32 _ HBL.out) ?_) | ((with_reducible refine gate_store 23 (.tmp 6) (.tmp 37) ?_); refine wpList_store_row rfl 23 (.tmp 6) (.tmp 37) rfl q6 0 rfl _ (B.map (Value.int .u8)) rfl HR6.out (by rw [List.length_map, List.length_map, HAL.out, HBL.out]) (sz_32 _ HBL.out) (int_oneCell _) ?_; intro W7 hr7 hc7; have HR7 := Lib.hid hr7; have HC7 := Lib.hid hc7; clear hr7 hc7)))
              | (go_upto_region 13 with (fail))
            refine wp_gen (fun W => ∃ C : List Int, C.length = 32 ∧ Bytes C ∧ PD = dsha (A ++ C) ∧ Keeps wr W ∧ Row W q 0 (A.map (Value.int .u8)) ∧ Row W q6 0 (C.map (Value.int .u8))) ?_ ?_
            focus
              first
                | exact ⟨B, HBL.out, (HNX.out hb).2, HPD.out, keeps_chg HK6.out HC7.out hw6, HR5'.out.chg HC7.out (by omega), HR7.out⟩
                | exact ⟨A, HAL.out, HOK.out.2, HPD.out, HK6.out, HR5'.out, HR6.out⟩
            clear HPD HK6 HR5' HR6
            intro W8 ⟨C, hcl, hcb, hpd, hk8, hra, hrc⟩
            have HCL := Lib.hid hcl; have HCB := Lib.hid hcb; have HPD := Lib.hid hpd; have HK8 := Lib.hid hk8; have HRA := Lib.hid hra; have HRC := Lib.hid hrc
            clear hcl hcb hpd hk8 hra hrc
            refine wp_region_head (S := fun W => Hid ((fun W => Keeps W8 W) W)) 8 (by kernel_rfl) (by kernel_rfl) ?_ (fun hHeld => ?_)
            focus exact Lib.hid (keeps_drew (Keeps.refl _))
            refine wpAnyHL_take (i := 0) (oi := ?_) (v := ?_) ?_ ?_ ?_ ?_ ?_ ?_ ?_ ?_ ?_ (Or.inl ⟨?_, ?_⟩) ?_ ?_
            rotate_left 2
            focus (simp only [List.getElem?_toArray, List.getElem?_cons_succ, List.getElem?_cons_zero]; exact rfl)
            focus kernel_rfl
            focus kernel_rfl
            focus kernel_rfl
            focus kernel_rfl
            focus kernel_rfl
            focus kernel_rfl
            focus kernel_rfl
            focus (exact fun _ _ _ h => h)
            focus rfl
            focus ((intro wSw hSw; (have hSw := hSw.out); (try dsimp only at hSw); go_simp) <;> with_reducible rfl)
            focus assumption
            try simp only [Act.put, List.setIfInBounds_toArray, List.set_cons_zero, List.set_cons_succ]
            refine wpAnyHL_take (i := 2) (oi := ?_) (v := ?_) ?_ ?_ ?_ ?_ ?_ ?_ ?_ ?_ ?_ (Or.inl ⟨?_, ?_⟩) ?_ ?_
            rotate_left 2
            focus (simp only [List.getElem?_toArray, List.getElem?_cons_succ, List.getElem?_cons_zero]; exact rfl)
            focus kernel_rfl
            focus kernel_rfl
            focus kernel_rfl
            focus kernel_rfl
            focus kernel_rfl
            focus kernel_rfl
            focus kernel_rfl
            focus (exact fun _ _ _ h => h)
            focus rfl
            focus ((intro wSw hSw; (have hSw := hSw.out); (try dsimp only at hSw); go_simp) <;> with_reducible rfl)
            focus assumption
            try simp only [Act.put, List.setIfInBounds_toArray, List.set_cons_zero, List.set_cons_succ]
            refine wpAnyHL_take (i := 4) (oi := ?_) (v := ?_) ?_ ?_ ?_ ?_ ?_ ?_ ?_ ?_ ?_ (Or.inl ⟨?_, ?_⟩) ?_ ?_
            rotate_left 2
            focus (simp only [List.getElem?_toArray, List.getElem?_cons_succ, List.getElem?_cons_zero]; exact rfl)
            focus kernel_rfl
            focus kernel_rfl
            focus kernel_rfl
            focus kernel_rfl
            focus kernel_rfl
            focus kernel_rfl
            focus kernel_rfl
            focus (exact fun _ _ _ h => h)
            focus rfl
            focus ((intro wSw hSw; (have hSw := hSw.out); (try dsimp only at hSw); go_simp) <;> with_reducible rfl)
            focus assumption
            try simp only [Act.put, List.setIfInBounds_toArray, List.set_cons_zero, List.set_cons_succ]
            refine wpAnyHL_one (i := 1) (o := ?_) (by kernel_rfl) (by kernel_rfl) ?_ ?_
            rotate_left 1
            focus (simp only [List.getElem?_toArray, List.getElem?_cons_succ, List.getElem?_cons_zero]; exact rfl)
            go_wp2
            try dsimp only [StepQ]
            refine ⟨?_, fun hHeld => ?_⟩
            focus (exact Lib.hid (keeps_alloc hHeld.out _))
            try simp only [Act.put, List.setIfInBounds_toArray, List.set_cons_zero, List.set_cons_succ]
            refine wpAnyHL_one (i := 3) (o := ?_) (by kernel_rfl) (by kernel_rfl) ?_ ?_
            rotate_left 1
            focus (simp only [List.getElem?_toArray, List.getElem?_cons_succ, List.getElem?_cons_zero]; exact rfl)
            go_wp2_with (at_builtin; refine own_append rfl (.tmp 39) (.tmp 40) rfl (Own.made W8.drew 5) (Keeps.refl _) rfl _ rfl 32 A ((row_rd32 (HRA.out.keeps hHeld.out) HAL.out).src Tryd.underlying44 (int_oneCell A)) (by omega) ?_; intro v2 W9 hO9 hG9; rw [Nat.zero_add, List.nil_append] at hO9; obtain ⟨a9, c9, rfl⟩ := hO9.any; have HO9 := Lib.hid hO9; clear hO9 hG9)
            try dsimp only [StepQ]
            refine ⟨?_, fun hHeld => ?_⟩
            focus (exact Lib.hid ((keeps_drew (Keeps.refl W8)).trans HO9.out.keeps))
            try simp only [Act.put, List.setIfInBounds_toArray, List.set_cons_zero, List.set_cons_succ]
            refine wpAnyHL_one (i := 5) (o := ?_) (by kernel_rfl) (by kernel_rfl) ?_ ?_
            rotate_left 1
            focus (simp only [List.getElem?_toArray, List.getElem?_cons_succ, List.getElem?_cons_zero]; exact rfl)
            go_wp2_with (at_builtin; refine own_append rfl (.tmp 41) (.tmp 42) rfl HO9.out (Keeps.refl _) rfl _ rfl 32 C ((row_rd32 (HRC.out.keeps hHeld.out) HCL.out).src Tryd.underlying44 (int_oneCell C)) (by omega) ?_; intro v2 WA hOA hGA; obtain ⟨aA, cA, rfl⟩ := hOA.any; have HOA := Lib.hid hOA; clear hOA hGA)
            try dsimp only [StepQ]
            refine ⟨?_, fun hHeld => ?_⟩
            focus (exact Lib.hid ((keeps_drew (Keeps.refl W8)).trans HOA.out.keeps))
            try simp only [Act.put, List.setIfInBounds_toArray, List.set_cons_zero, List.set_cons_succ]
            refine wpAnyHL_one (i := 6) (o := ?_) (by kernel_rfl) (by kernel_rfl) ?_ ?_
            rotate_left 1
            focus (simp only [List.getElem?_toArray, List.getElem?_cons_succ, List.getElem?_cons_zero]; exact rfl)
            go_wp2_with (go_at_call 32; refine (ref_double _ (32 + 32) (A ++ C) _ HOA.out.rd (Bytes.app HOK.out.2 HCB.out) (by omega)).mono ?_; rintro e WB ⟨rfl, hkb⟩; have HKB := Lib.hid hkb; clear hkb)
            try dsimp only [StepQ]
            refine ⟨?_, fun hHeld => ?_⟩
            focus (exact Lib.hid (hHeld.out.trans HKB.out))
            try simp only [Act.put, List.setIfInBounds_toArray, List.set_cons_zero, List.set_cons_succ]
            have HKZ := Lib.hid hHeld.out
            refine wpAnyHL_one (i := 7) (o := ?_) (by kernel_rfl) (by kernel_rfl) ?_ ?_
            rotate_left 1
            focus (simp only [List.getElem?_toArray, List.getElem?_cons_succ, List.getElem?_cons_zero]; exact rfl)
            go_wp2_with (refine wpList_buildSlice1 rfl 33 23 _ rfl 32 32 Tryd.underlying33 h32_info h32_zero (by decide) ((dsha (A ++ C)).map (Value.int .u8)) rfl (by rw [List.length_map, dsha_length]) ?_)
            try dsimp only [StepQ]
            refine ⟨?_, fun hHeld => ?_⟩
            focus (exact Lib.hid (keeps_alloc hHeld.out _))
            try simp only [Act.put, List.setIfInBounds_toArray, List.set_cons_zero, List.set_cons_succ]
            refine wpAnyHL_done (by kernel_rfl) ?_
            try simp only [List.drop_succ_cons, List.drop_zero]
            have hks : (k + 1) * 32 ≤ 140737488355328 := by have := HJ.out; omega
            go_wp2_with (at_builtin; refine ownh_append1 rfl _ _ rfl HOW.out HIL.out (HK8.out.trans HKZ.out) rfl (dsha_length (A ++ C)) (dsha_bytes (A ++ C)) 1 23 _ rfl rfl hks ?_; intro v9 w9 h9; have H9 := Lib.hid h9; clear h9)
            have h10 := H9.out
            rw [← HPD.out, ← HTK.out] at h10
            have H10 := Lib.hid h10
            clear h10 hks
            go_roundw
            case rel => exact ⟨k + 1, j + 2, by have := HJ.out; omega, by go_num, by omega, Lib.hid (by have := HJ.out; omega), H10⟩
            case measure => simp [intOf]; omega
        · have hfull : (upD l).take k = upD l := upD_full l k (by have := HJ.out; omega)
          rw [hfull] at HOW
          have hrh : RH wr (.slice va k vc) (upD l) := HOW.out.rh (by rw [hul]; omega)
          have HRH := Lib.hid hrh
          have HKW := Lib.hid HOW.out.keeps
          have HCALL := Lib.hid (HIH.out (upD l) (by rw [hul]; omega) _ wr hrh)
          rw [← HUP.out] at HCALL
          clear hrh hfull HOW HRH
          go_wp2_with (first | (go_at_call 9; refine HCALL.out.mono ?_; rintro e W8 ⟨rfl, hk8⟩; have HK8 := Lib.hid hk8; clear hk8) | ((with_reducible refine gate_store 23 (.tmp 2) (.tmp 48) ?_); refine wpList_store_row rfl 23 (.tmp 2) (.tmp 48) rfl p 0 rfl z32 (MD.map (Value.int .u8)) rfl ((HR.out.keeps HKW.out).keeps HK8.out) (by rw [List.length_map, HML.out]; rfl) Z32.out (int_oneCell _) ?_; intro W9 hr9 hc9; have HR9 := Lib.hid hr9; have HC9 := Lib.hid hc9; clear hr9 hc9))
          refine bodyPost_ret (v := .agg (MD.map (Value.int .u8)).toArray) (results_cell_at (p := 2) (ty := 23) rfl _ _ p 0 _ _ rfl HR9.out Tryd.underlying23 rfl Z32.out) rfl ?_
          exact ⟨rfl, keeps_chg ((HK.out.trans HKW.out).trans HK8.out) HC9.out (by have := HP.out; omega)⟩
end Go.Proofs.YtclhjlkgmeofcaaDoor
namespace Go.Proofs.YtclhjlkgmeofcaaDoor
set_option linter.unusedVariables false
set_option linter.unusedSimpArgs false
open Go Go.RowKit

def widD (d : TxD) : List Int := idD d true
theorem widD_eq (d : TxD) : dsha (encB d true) = widD d := rfl
theorem wids_ok (l : List TxD) : HsOk (l.map widD) := fun y hy => by
  obtain ⟨d, _, rfl⟩ := List.mem_map.1 hy
  exact ⟨sha_length _, sha_bytes _⟩
set_option maxRecDepth 100000 in
set_option maxHeartbeats 4000000 in
theorem rroot_any (hc : List Value) (hl : hc.length = 68) (S T R : Nat → Prop) (tv : Value) (l : List TxD) (hf : ∀ d ∈ l, Fits d) (w : World) (h : RTxs S T R w tv l) :
    Calls Tryd.prog 11 #[.agg (hc ++ [tv]).toArray] w fun e w' => e = .returned (.agg ((merkD (l.map widD)).map (Value.int .u8)).toArray) ∧ Keeps w w' := by
  have HT := Lib.hid h; have HF := Lib.hid hf
  obtain ⟨a, cap, rfl, hcap, hcm⟩ := h.any
  have hsm := h.small
  have hmo := merkD_ok (l.map widD) (wids_ok l)
  have Z32 := Lib.hid (sz_32 _ hmo.1); have HML := Lib.hid hmo.1
  have hmk : Hid (∀ W v, RH W v (l.map widD) → Calls Tryd.prog 9 #[v] W fun e w' => e = .returned (.agg ((merkD (l.map widD)).map (Value.int .u8)).toArray) ∧ Keeps W w') := Lib.hid (fun W v h => rmerkle_any _ (l.map widD) (Nat.le_refl _) v W h)
  clear h hf hmo
  generalize merkD (l.map widD) = MD at *
  go_enter Tryd.func11, Tryd.ntmps11
  go_upto_region 1 with (fail)
  refine wp_rows2 (fun W1 hk hr1 hr2 hsz => ?_)
  have hr1 : Row W1 w.heap.size 0 (hc ++ [.slice a l.length cap]) := by simpa using hr1
  have hr2 : Row W1 (w.heap.size + 1) 0 z32 := hr2
  obtain ⟨p, hp⟩ : ∃ p, p = w.heap.size := ⟨_, rfl⟩
  rw [← hp] at hr1 hr2 hsz ⊢
  have HP := Lib.hid hp; have HK := Lib.hid hk; have HR2 := Lib.hid hr2
  have HB := Lib.hid (fun W (hk : Keeps W1 W) => (blk_cell (hr1.keeps hk) hl).1)
  clear hp hk hr1 hr2 hsz
  have b0 := HB.out _ (Keeps.refl _)
  go_wp2
  go_loopw [3, 4] (fun v c wr => ∃ i : Nat, i ≤ l.length ∧ c = .int .i64 i ∧ Hid (OwnH W1 wr v ((l.take i).map widD))) (fun _ c _ => (l.length - intOf c).toNat)
  case atStart => exact ⟨0, by omega, rfl, Lib.hid (OwnH.nil _)⟩
  case round =>
    obtain ⟨i, hi, rfl, HOW⟩ := hrel
    clear b0
    have b0 := HB.out _ HOW.out.keeps
    have hil : ((l.take i).map widD).length = i := by simp; omega
    obtain ⟨va, vc, hv⟩ := HOW.out.any
    rw [hil] at hv
    subst hv
    have HIL := Lib.hid hil
    clear hil
    by_cases hlt : i < l.length
    · obtain ⟨g, off, iv, ov, d, rfl, hg, hdi, hrow, hrtx⟩ := (HT.out.keeps (HK.out.trans HOW.out.keeps)).at hlt
      have hfd := HF.out d (List.mem_of_getElem? hdi)
      have HE := Lib.hid (renc_any S T R d iv ov true hfd wr hrtx)
      have HEB := Lib.hid (hrtx.bytes true)
      have hel := enc_le d true hfd
      have HROW := Lib.hid hrow
      have HTK : Hid ((l.take (i + 1)).map widD = (l.take i).map widD ++ [dsha (encB d true)]) := Lib.hid (by rw [map_take_snoc widD l i d hdi]; rfl)
      obtain ⟨ia, ic, rfl, -⟩ := hrtx.ins.any
      obtain ⟨oa, oc, rfl, -⟩ := hrtx.outs.any
      clear hdi hrow hrtx hfd
      generalize encB d true = EB at *
      go_wp2_with (first | ((with_reducible refine gate_load 66 (.tmp 16) ?_); refine wpList_load_at rfl 66 (.tmp 16) rfl g (off + i * 4) rfl _ _ HROW.out Tryd.underlying66 rfl (sz_tx _ _ _ _) ?_) | (go_at_call 34; refine HE.out.mono ?_; rintro e W2 ⟨v2, rfl, hO2⟩; obtain ⟨a2, c2, rfl⟩ := hO2.any; have HO2 := Lib.hid hO2; clear hO2) | (go_at_call 32; refine (ref_double _ EB.length EB _ HO2.out.rd HEB.out (by omega)).mono ?_; rintro e W3 ⟨rfl, hk3⟩; have HK3 := Lib.hid hk3; clear hk3) | (refine wpList_buildSlice1 rfl 33 23 _ rfl 32 32 Tryd.underlying33 h32_info h32_zero (by decide) ((dsha EB).map (Value.int .u8)) rfl (by rw [List.length_map, dsha_length]) ?_) | (at_builtin; refine ownh_append1 rfl _ _ rfl HOW.out HIL.out (HO2.out.keeps.trans HK3.out) rfl (dsha_length EB) (dsha_bytes EB) 1 23 _ rfl rfl (by omega) ?_; intro v9 w9 h9; have H9 := Lib.hid h9; clear h9))
      have h10 := H9.out
      rw [← HTK.out] at h10
      have H10 := Lib.hid h10
      clear h10
      go_roundw
      case rel => exact ⟨i + 1, by omega, by go_num, H10⟩
      case measure => simp [intOf]; omega
    · obtain rfl : l.length = i := by omega
      rw [List.take_length] at HOW
      have hrh : RH wr (.slice va l.length vc) (l.map widD) := HOW.out.rh (by simp; omega)
      have HKW := Lib.hid HOW.out.keeps
      have HCALL := Lib.hid (hmk.out wr _ hrh)
      clear hrh HOW hmk
      go_wp2_with (first | (go_at_call 9; refine HCALL.out.mono ?_; rintro e W8 ⟨rfl, hk8⟩; have HK8 := Lib.hid hk8; clear hk8) | ((with_reducible refine gate_store 23 (.tmp 2) (.tmp 23) ?_); refine wpList_store_row rfl 23 (.tmp 2) (.tmp 23) rfl (p + 1) 0 rfl z32 (MD.map (Value.int .u8)) rfl ((HR2.out.keeps HKW.out).keeps HK8.out) (by rw [List.length_map, HML.out]; rfl) Z32.out (int_oneCell _) ?_; intro W9 hr9 hc9; have HR9 := Lib.hid hr9; have HC9 := Lib.hid hc9; clear hr9 hc9))
      refine bodyPost_ret (v := .agg (MD.map (Value.int .u8)).toArray) (results_cell_at (p := 2) (ty := 23) rfl _ _ (p + 1) 0 _ _ rfl HR9.out Tryd.underlying23 rfl Z32.out) rfl ?_
      exact ⟨rfl, keeps_chg ((HK.out.trans HKW.out).trans HK8.out) HC9.out (by have := HP.out; omega)⟩
end Go.Proofs.YtclhjlkgmeofcaaDoor
namespace Go.Proofs.YtclhjlkgmeofcaaDoor
set_option linter.unusedVariables false
set_option linter.unusedSimpArgs false
open Go Go.RowKit

def CbAt (l : List TxD) (i : Nat) : Prop := ∀ d, l[i]? = some d → cbD d = decide (i = 0)
def CbOk (l : List TxD) : Prop := 0 < l.length ∧ ∀ i, i < l.length → CbAt l i
def FirstErr (l : List TxD) (r : Int) : Prop := r ≠ 0 ∧ ∃ (i : Nat) (d : TxD), l[i]? = some d ∧ Chk d r ∧ ∀ j, j < i → ∀ d', l[j]? = some d' → Chk d' 0
def AllOk (l : List TxD) : Prop := ∀ d ∈ l, Chk d 0
def nameD (d : TxD) : List Int := idD d false
theorem nameD_len (d : TxD) : (nameD d).length = 32 := sha_length _
theorem nameD_bytes (d : TxD) : Bytes (nameD d) := sha_bytes _
def SameName (l : List TxD) : Prop := ∃ (i k : Nat) (a b : TxD), k < i ∧ l[i]? = some a ∧ l[k]? = some b ∧ nameD a = nameD b
/-- the answer -/
def BChk (pv : Bool) (n : Nat) (mk root : List Int) (l : List TxD) (r : Int) : Prop :=
  (pv = false → r = 12) ∧ (pv = true → (¬ CbOk l → r = 3) ∧ (CbOk l → (1000000 < n → r = 2) ∧ (¬ 1000000 < n → (mk ≠ root → r = 5) ∧ (mk = root → FirstErr l r ∨ (AllOk l ∧ (SameName l → r = 18) ∧ (¬ SameName l → r = 0))))))
theorem FirstErr.fn {l : List TxD} {r s : Int} (h : FirstErr l r) (k : FirstErr l s) : r = s := by
  obtain ⟨h0, i, d, h1, h2, h3⟩ := h
  obtain ⟨k0, j, e, k1, k2, k3⟩ := k
  rcases Nat.lt_trichotomy i j with q | q | q
  · exact absurd (Chk.fn h2 (k3 i q d h1)) h0
  · subst q
    rw [h1] at k1
    cases k1
    exact Chk.fn h2 k2
  · exact absurd (Chk.fn k2 (h3 j q e k1)) k0
theorem FirstErr.not {l : List TxD} {r : Int} (h : FirstErr l r) : ¬ AllOk l := fun k => by
  obtain ⟨h0, i, d, h1, h2, _⟩ := h
  exact h0 (Chk.fn h2 (k d (List.mem_of_getElem? h1)))
theorem BChk.fn {pv : Bool} {n : Nat} {mk root : List Int} {l : List TxD} {r s : Int} (h : BChk pv n mk root l r) (k : BChk pv n mk root l s) : r = s := by
  cases pv
  · rw [h.1 rfl, k.1 rfl]
  · have h := h.2 rfl; have k := k.2 rfl
    by_cases a : CbOk l
    · have h := h.2 a; have k := k.2 a
      by_cases b : 1000000 < n
      · rw [h.1 b, k.1 b]
      · have h := h.2 b; have k := k.2 b
        by_cases c : mk = root
        · have h := h.2 c; have k := k.2 c
          rcases h with h | ⟨h, h1, h2⟩
          · rcases k with k | ⟨k, _⟩
            · exact h.fn k
            · exact absurd k h.not
          · rcases k with k | ⟨k, k1, k2⟩
            · exact absurd h k.not
            · by_cases e : SameName l
              · rw [h1 e, k1 e]
              · rw [h2 e, k2 e]
        · rw [h.1 c, k.1 c]
    · rw [h.1 a, k.1 a]
/-- a name as a map's key -/
def keyH (h : List Int) : Lit := .string (keyBytes (h.map (Lit.int .u8)))
theorem hash_formed (h : List Int) (hl : h.length = 32) : (Value.agg (h.map (Value.int .u8)).toArray).formed Tryd.prog 24 = true := by
  have e1 : Tryd.prog.cellsOf 24 = 32 := by kernel_rfl
  unfold Value.formed
  rw [Tryd.underlying24]
  simp [e1, hl]
theorem keyOf_hash (h : List Int) (hl : h.length = 32) (hb : Bytes h) : keyOf Tryd.prog 24 (.agg (h.map (Value.int .u8)).toArray) = some (keyH h) := by
  have hk : Tryd.prog.keyType 24 = true := by kernel_rfl
  obtain ⟨D, hD⟩ := someTypes3
  have h1 := lits_hash (D + 1) h hl hb
  unfold keyOf
  rw [Tryd.underlying24]
  simp only [hk, hash_formed h hl, Bool.and_self, if_true, hD, Value.cells, h1, Option.map_some]
  rfl
theorem keyH_inj {h h' : List Int} (hl : h.length = 32) (hb : Bytes h) (hl' : h'.length = 32) (hb' : Bytes h') (e : keyH h = keyH h') : h = h' := by
  have e1 : keyBytes (h.map (Lit.int .u8)) = keyBytes (h'.map (Lit.int .u8)) := by
    unfold keyH at e
    exact Lit.string.inj e
  have e2 := keyLits_inj (lits_hash 0 h hl hb) (lits_hash 0 h' hl' hb') e1
  have := congrArg (List.map (fun l => match l with | Lit.int _ n => n | _ => 0)) e2
  simpa [List.map_map, Function.comp_def] using this
theorem hashKeyed : Maps.Keyed Tryd.prog 24 := Maps.Keyed.of_law (deep_law_laid laidOutC (m := 4) (by omega) (of_decide_eq_true (by kernel_rfl)) (by kernel_rfl) (by kernel_rfl))
/-- the map D tells of each name whether one of l bears it -/
def SeenN (D : DataW Unit) (l : List TxD) : Prop := Maps.IsMap D ∧ ∀ (h : List Int), h.length = 32 → Bytes h → ∃ b : Bool, D.atKey (keyH h) (.lit (.bool false)) = .lit (.bool b) ∧ (b = true ↔ ∃ a ∈ l, nameD a = h)
theorem SeenN.nil : SeenN (.map []) [] := ⟨⟨[], rfl⟩, fun h _ _ => ⟨false, rfl, by simp⟩⟩
theorem SeenN.put {D : DataW Unit} {l : List TxD} {d : TxD} (h : SeenN D l) (hm : Maps.IsMap (D.put (keyH (nameD d)) (.lit (.bool true)))) : SeenN (D.put (keyH (nameD d)) (.lit (.bool true))) (l ++ [d]) := by
  refine ⟨hm, fun hh h1 h2 => ?_⟩
  by_cases e : keyH hh = keyH (nameD d)
  · refine ⟨true, ?_, ?_⟩
    · rw [e, Maps.atKey_put_same h.1 (by unfold keyH; first | trivial | (unfold WideAt.IsKeyLit; trivial) | simp [WideAt.IsKeyLit])]
    · have e1 := keyH_inj h1 h2 (nameD_len d) (nameD_bytes d) e
      exact ⟨fun _ => ⟨d, by simp, e1.symm⟩, fun _ => rfl⟩
  · obtain ⟨b, hb, hiff⟩ := h.2 hh h1 h2
    refine ⟨b, ?_, ?_⟩
    · rw [Maps.atKey_put_other e]; exact hb
    · rw [hiff]
      constructor
      · rintro ⟨a, ha, r⟩; exact ⟨a, by simp [ha], r⟩
      · rintro ⟨a, ha, r1⟩
        rcases List.mem_append.1 ha with ha | ha
        · exact ⟨a, ha, r1⟩
        · simp at ha; subst ha; exact absurd (by rw [r1]) e
/-- no two of the first i bear one name -/
def NoSame (l : List TxD) (i : Nat) : Prop := ∀ (m k : Nat) (a b : TxD), m < i → k < m → l[m]? = some a → l[k]? = some b → nameD a ≠ nameD b
theorem NoSame.all {l : List TxD} (h : NoSame l l.length) : ¬ SameName l := by
  rintro ⟨i, k, a, b, h1, h2, h3, h4⟩
  exact h i k a b (List.getElem?_eq_some_iff.1 h2).1 h1 h2 h3 h4
theorem CbOk.all {l : List TxD} (h0 : 0 < l.length) (h : ∀ j, j < l.length → CbAt l j) : CbOk l := ⟨h0, h⟩
theorem cb_bad {l : List TxD} {i : Nat} {d : TxD} (hi : i < l.length) (hd : l[i]? = some d) (h : cbD d ≠ decide (i = 0)) : ¬ CbOk l := fun k => h (k.2 i hi d hd)
theorem all_of {l : List TxD} (h : ∀ j, j < l.length → ∀ d, l[j]? = some d → Chk d 0) : AllOk l := fun d hd => by
  obtain ⟨i, hi, e⟩ := List.getElem_of_mem hd
  exact h i hi d (by rw [List.getElem?_eq_getElem hi, e])
end Go.Proofs.YtclhjlkgmeofcaaDoor
