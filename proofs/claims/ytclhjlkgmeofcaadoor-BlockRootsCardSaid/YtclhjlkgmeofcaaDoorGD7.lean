/- strongboxref10.Merkle. -/
import Derived.Test.YtclhjlkgmeofcaaDoorGD6
import Derived.Test.YtclhjlkgmeofcaaDoorGB2
namespace Go.Proofs.YtclhjlkgmeofcaaDoor
set_option linter.unusedVariables false
set_option linter.unusedSimpArgs false
open Go Go.RowKit

theorem min_next (l : List (List Int)) (k : Nat) (h : 2 * k < l.length) : (2 * k + 1 < l.length → pairD l k = dsha (l.getD (2 * k) [] ++ l.getD (2 * k + 1) [])) ∧ (¬ 2 * k + 1 < l.length → pairD l k = dsha (l.getD (2 * k) [] ++ l.getD (2 * k) [])) := by
  constructor
  · intro h2; unfold pairD; rw [Nat.min_eq_left (by omega)]
  · intro h2; unfold pairD; rw [Nat.min_eq_right (by omega), show l.length - 1 = 2 * k by omega]
def z32 : List Value := [.int .u8 0, .int .u8 0, .int .u8 0, .int .u8 0, .int .u8 0, .int .u8 0, .int .u8 0, .int .u8 0, .int .u8 0, .int .u8 0, .int .u8 0, .int .u8 0, .int .u8 0, .int .u8 0, .int .u8 0, .int .u8 0, .int .u8 0, .int .u8 0, .int .u8 0, .int .u8 0, .int .u8 0, .int .u8 0, .int .u8 0, .int .u8 0, .int .u8 0, .int .u8 0, .int .u8 0, .int .u8 0, .int .u8 0, .int .u8 0, .int .u8 0, .int .u8 0]
theorem z32_zero : z32 = zeroH.map (Value.int .u8) := by simp [z32, zeroH, List.replicate]
theorem map32_ne {h : List Int} (hl : h.length = 32) : h.map (Value.int .u8) ≠ [] := by
  intro e
  have := congrArg List.length e
  rw [List.length_map, hl] at this
  simp at this
theorem row_rd32 {W : World} {q : Nat} {h : List Int} (hr : Row W q 0 (h.map (Value.int .u8))) (hl : h.length = 32) : Rd W 1 (.slice (some ⟨q, 0, none⟩) 32 32) 32 (h.map (Value.int .u8)) :=
  Rd.of_row hr (by simp [hl]) (hr.lt (map32_ne hl)) (Nat.le_refl _) (by unfold maxLen; omega)
set_option maxRecDepth 100000 in
set_option maxHeartbeats 2000000 in
theorem rmerkle_small (l : List (List Int)) (hs : l.length ≤ 1) (v : Value) (w : World) (h : RH w v l) :
    Calls Tryd.prog 9 #[v] w fun e w' => e = .returned (.agg ((merkD l).map (Value.int .u8)).toArray) ∧ Keeps w w' := by
  have HH := Lib.hid h
  obtain ⟨a, cap, rfl, hcap, hcm⟩ := h.any
  have hmo := merkD_ok l h.ok
  have Z32 := Lib.hid (sz_32 _ hmo.1)
  have HML := Lib.hid hmo.1
  have hms := merkD_small l hs
  have hok := h.ok
  clear h hmo
  have H0 : ∀ (W : World), Row (W.alloc (.cells z32.toArray 23)) W.heap.size 0 z32 := fun W => Row.new _ _ _ rfl
  have HR0 := Lib.hid H0
  clear H0
  cases l with
  | nil =>
    have HM0 : Hid ((merkD []).map (Value.int .u8) = z32) := Lib.hid (by rw [hms, z32_zero]; rfl)
    have HZ0 : ∀ (W : World) (a : Act) (o : Oper), o.op = .build 23 #[] → (execOp a.eval o).run Tryd.prog W = .ok (.value (.agg z32.toArray)) W := fun W a o ho => by
      unfold execOp; rw [ho]; kernel_rfl
    have HZ := Lib.hid HZ0
    clear HZ0 hms hok
    rw [HM0.out] at Z32 ⊢
    have HZL : Hid (z32.length = 32) := Lib.hid rfl
    have HZ1 : Hid (∀ v ∈ z32, v.oneCell' = true) := Lib.hid (by rw [z32_zero]; exact int_oneCell _)
    go_enter Tryd.func9, Tryd.ntmps9
    go_upto_region 1 with (fail)
    refine wp_gen (fun W => Keeps w W ∧ Row W w.heap.size 0 z32) ⟨keeps_alloc (Keeps.refl w) _, HR0.out w⟩ ?_
    intro W1 ⟨hk, hr⟩
    have HK := Lib.hid hk; have HR := Lib.hid hr
    clear hk hr
    generalize hZ : z32 = ZZ at *
    have HZE := Lib.hid hZ
    clear hZ
    go_wp2_with (first | (refine wpList_zero_on (by kernel_rfl) 23 rfl _ (HZ.out _ _ _ rfl) ?_) | ((with_reducible refine gate_store 23 (.tmp 2) (.tmp 10) ?_); refine wpList_store_row rfl 23 (.tmp 2) (.tmp 10) rfl w.heap.size 0 rfl ZZ ZZ rfl HR.out rfl Z32.out HZ1.out ?_; intro W9 hr9 hc9; have HR9 := Lib.hid hr9; have HC9 := Lib.hid hc9; clear hr9 hc9))
    refine bodyPost_ret (v := .agg ZZ.toArray) (results_cell_at (p := 2) (ty := 23) rfl _ _ w.heap.size 0 _ _ rfl HR9.out Tryd.underlying23 rfl Z32.out) rfl ?_
    exact ⟨by rw [HZE.out], keeps_chg HK.out HC9.out (Nat.le_refl _)⟩
  | cons x r =>
    obtain rfl : r = [] := List.eq_nil_of_length_eq_zero (by simpa using hs)
    have hx := hok x (by simp)
    rw [hms] at Z32 HML ⊢
    simp only [List.headD_cons] at Z32 HML ⊢
    obtain ⟨g, off, e, hg, hrow⟩ := HH.out.at (i := 0) (by simp)
    subst e
    rw [Nat.zero_mul, Nat.add_zero] at hrow
    have hrow : Row w g off (x.map (Value.int .u8)) := hrow
    have HROW := Lib.hid hrow
    clear hrow hms hok hx
    go_enter Tryd.func9, Tryd.ntmps9
    go_upto_region 1 with (fail)
    refine wp_gen (fun W => Keeps w W ∧ Row W w.heap.size 0 z32) ⟨keeps_alloc (Keeps.refl w) _, HR0.out w⟩ ?_
    intro W1 ⟨hk, hr⟩
    have HK := Lib.hid hk; have HR := Lib.hid hr
    clear hk hr
    go_wp2_with (first | ((with_reducible refine gate_load 23 (.tmp 15) ?_); refine wpList_load_at rfl 23 (.tmp 15) rfl g off rfl _ _ (HROW.out.keeps HK.out) Tryd.underlying23 rfl Z32.out ?_) | ((with_reducible refine gate_store 23 (.tmp 2) (.tmp 16) ?_); refine wpList_store_row rfl 23 (.tmp 2) (.tmp 16) rfl w.heap.size 0 rfl z32 (x.map (Value.int .u8)) rfl HR.out (by rw [List.length_map, HML.out]; rfl) Z32.out (int_oneCell _) ?_; intro W9 hr9 hc9; have HR9 := Lib.hid hr9; have HC9 := Lib.hid hc9; clear hr9 hc9))
    refine bodyPost_ret (v := .agg (x.map (Value.int .u8)).toArray) (results_cell_at (p := 2) (ty := 23) rfl _ _ w.heap.size 0 _ _ rfl HR9.out Tryd.underlying23 rfl Z32.out) rfl ?_
    exact ⟨rfl, keeps_chg HK.out HC9.out (Nat.le_refl _)⟩
set_option maxRecDepth 100000 in
set_option maxHeartbeats 8000000 in
theorem rmerkle_any : ∀ (N : Nat) (l : List (List Int)) (_ : l.length ≤ N) (v : Value) (w : World) (_ : RH w v l),
    Calls Tryd.prog 9 #[v] w fun e w' => e = .returned (.agg ((merkD l).map (Value.int .u8)).toArray) ∧ Keeps w w' := by
  intro N
  induction N with
  | zero => exact fun l hN v w h => rmerkle_small l (by omega) v w h
  | succ N IH =>
    intro l hN v w h
    have HH := Lib.hid h; have HIH := Lib.hid IH
    obtain ⟨a, cap, rfl, hcap, hcm⟩ := h.any
    have hsm := h.small
    have hmo := merkD_ok l h.ok
    clear h IH
    by_cases h2 : l.length ≤ 1
    · exact rmerkle_small l h2 _ w HH.out
    · have hup := merkD_up l h2
      have hul := upD_length l
      have HUP := Lib.hid hup
      have Z32 := Lib.hid (sz_32 _ hmo.1)
      have HML := Lib.hid hmo.1
      clear hup hmo
      generalize merkD l = MD at *
      have hz0 : ((l.length : Int) == 0) = false := beq_eq_false_iff_ne.2 (by omega)
      have hz1 : ((l.length : Int) == 1) = false := beq_eq_false_iff_ne.2 (by omega)
      go_enter Tryd.func9, Tryd.ntmps9
      go_upto_region 1 with (fail)
      have hk0 : Keeps w (w.alloc (.cells z32.toArray 23)) := keeps_alloc (Keeps.refl w) _
      have hr0 : Row (w.alloc (.cells z32.toArray 23)) w.heap.size 0 z32 := Row.new _ _ _ rfl
      refine wp_gen (fun W => Keeps w W ∧ Row W w.heap.size 0 z32) ⟨hk0, hr0⟩ ?_
      clear hk0 hr0
      intro W1 ⟨hk, hr⟩
      have HK := Lib.hid hk; have HR := Lib.hid hr
      clear hk hr
      obtain ⟨p, hp⟩ : ∃ p, p = w.heap.size := ⟨_, rfl⟩
      rw [← hp] at HR ⊢
      have HP := Lib.hid hp
      clear hp
      go_upto_region 5 with (fail)
      clear hz0 hz1
      go_wp2
      go_loopw [3, 4] (fun v c wr => ∃ k j : Nat, k ≤ (l.length + 1) / 2 ∧ c = .int .i64 (j : Int) ∧ j ≤ l.length + 1 ∧ Hid (j = 2 * k) ∧ Hid (OwnH W1 wr v ((upD l).take k))) (fun _ c _ => (l.length + 2 - intOf c).toNat)
      case atStart => exact ⟨0, 0, by omega, rfl, by omega, Lib.hid rfl, Lib.hid (OwnH.nil _)⟩
      case round =>
        obtain ⟨k, j, hk, rfl, hjl, HJ, HOW⟩ := hrel
        have hil : ((upD l).take k).length = k := by rw [List.length_take, hul]; omega
        obtain ⟨va, vc, hv⟩ := HOW.out.any
        rw [hil] at hv
        subst hv
        have HIL := Lib.hid hil
        clear hil
        by_cases hlt : j < l.length
        · have hpair := min_next l k (by have := HJ.out; omega)
          have htk := upD_take l k (by have := HJ.out; omega)
          have hok := HH.out.ok.getD (i := j) hlt
          have hnx : j + 1 < l.length → (l.getD (j + 1) []).length = 32 ∧ Bytes (l.getD (j + 1) []) := fun h => HH.out.ok.getD h
          have hrwx : ∀ W, Keeps wr W → j + 1 < l.length → ∃ g off, a = some ⟨g, off, none⟩ ∧ Row W g (off + (j + 1) * 32) ((l.getD (j + 1) []).map (Value.int .u8)) := fun W hk h => by
            obtain ⟨g, off, e, _, hr⟩ := (HH.out.keeps ((HK.out.trans HOW.out.keeps).trans hk)).at (i := j + 1) h
            exact ⟨g, off, e, hr⟩
          have HRX := Lib.hid hrwx; have HNX := Lib.hid hnx
          clear hrwx hnx
          obtain ⟨g, off, rfl, hg, hrow⟩ := (HH.out.keeps (HK.out.trans HOW.out.keeps)).at (i := j) hlt
          rw [← HJ.out] at hpair
          have HTK := Lib.hid htk; have HROW := Lib.hid hrow; have HOK := Lib.hid hok; have HPAIR := Lib.hid hpair
          clear htk hrow hok hpair
          generalize l.getD j [] = A at *
          generalize l.getD (j + 1) [] = B at *
          generalize hPD : pairD l k = PD at *
          clear hPD
          have hAl := HOK.out.1
          have HAL := Lib.hid hAl
          clear hAl
          go_upto_region 10 with (first | ((with_reducible refine gate_load 23 (.tmp 25) ?_); refine wpList_load_at rfl 23 (.tmp 25) rfl g (off + j * 32) rfl _ _ HROW.out Tryd.underlying23 rfl (sz_32 _ HAL.out) ?_) | ((with_reducible refine gate_store 23 (.tmp 5) (.tmp 26) ?_); refine wpList_store_row rfl 23 (.tmp 5) (.tmp 26) rfl _ 0 rfl z32 (A.map (Value.int .u8)) rfl (Row.new _ _ _ rfl) (by rw [List.length_map, HAL.out]; rfl) (sz_32 _ HAL.out) (int_oneCell _) ?_; intro W5 hr5 hc5; have HR5 := Lib.hid hr5; have HC5 := Lib.hid hc5; clear hr5 hc5))
          have HK5 := Lib.hid (keeps_chg (keeps_alloc (Keeps.refl wr) _) HC5.out (Nat.le_refl _))
          obtain ⟨q, hq⟩ : ∃ q, q = wr.heap.size := ⟨_, rfl⟩
          rw [← hq] at HR5 ⊢
          clear hq HC5
          go_upto_region 11 with (first | ((with_reducible refine gate_load 23 (.tmp 5) ?_); refine wpList_load_at rfl 23 (.tmp 5) rfl q 0 rfl _ _ HR5.out Tryd.underlying23 rfl (sz_32 _ HAL.out) ?_) | ((with_reducible refine gate_store 23 (.tmp 6) (.tmp 27) ?_); refine wpList_store_row rfl 23 (.tmp 6) (.tmp 27) rfl _ 0 rfl z32 (A.map (Value.int .u8)) rfl (Row.new _ _ _ rfl) (by rw [List.length_map, HAL.out]; rfl) (sz_32 _ HAL.out) (int_oneCell _) ?_; intro W6 hr6 hc6; have HR6 := Lib.hid hr6; have HC6 := Lib.hid hc6; clear hr6 hc6))
          have hk56 : Keeps W5 W6 := keeps_chg (keeps_alloc (Keeps.refl W5) _) HC6.out (Nat.le_refl _)
          have HK6 := Lib.hid (HK5.out.trans hk56)
          have HR5' := Lib.hid (HR5.out.keeps hk56)
          have hlt6 : W5.heap.size < W6.heap.size := HR6.out.lt (map32_ne HAL.out)
          obtain ⟨q6, hq6⟩ : ∃ q, q = W5.heap.size := ⟨_, rfl⟩
          have hqq : q < q6 := by rw [hq6]; exact HR5.out.lt (map32_ne HAL.out)
          have hw6 : wr.heap.size ≤ q6 := by rw [hq6]; exact HK5.out.size
          rw [← hq6] at HR6 ⊢
          clear hq6 hk56 HC6 HR5 HK5 hlt6
          have hsp : (j + 1 < l.length ∧ PD = dsha (A ++ B) ∧ B.length = 32) ∨ (¬ j + 1 < l.length ∧ PD = dsha (A ++ A)) := by
            by_cases h : j + 1 < l.length
            · exact .inl ⟨h, HPAIR.out.1 h, (HNX.out h).1⟩
            · exact .inr ⟨h, HPAIR.out.2 h⟩
          clear HPAIR
          rcases hsp with ⟨hb, hpd, hbl⟩ | ⟨hb, hpd⟩
          all_goals
            have HPD := Lib.hid hpd
            clear hpd
            first
              | (obtain ⟨g2, off2, e2, hrow2⟩ := HRX.out _ HK6.out hb
                 obtain ⟨rfl, rfl⟩ : g = g2 ∧ off = off2 := by have := Option.some.inj e2; simp at this; exact this
                 have HROW2 := Lib.hid hrow2; have HBL := Lib.hid hbl
                 clear hrow2 e2 hbl
                 go_upto_region 13 with (first | ((with_reducible refine gate_load 23 (.tmp 36) ?_); refine wpList_load_at rfl 23 (.tmp 36) rfl g (off + (j + 1) * 32) rfl _ _ HROW2.out Tryd.underlying23 rfl (sz_32 _ HBL.out) ?_) | ((with_reducible refine gate_store 23 (.tmp 6) (.tmp 37) ?_); refine wpList_store_row rfl 23 (.tmp 6) (.tmp 37) rfl q6 0 rfl _ (B.map (Value.int .u8)) rfl HR6.out (by rw [List.length_map, List.length_map, HAL.out, HBL.out]) (sz_32 _ HBL.out) (int_oneCell _) ?_; intro W7 hr7 hc7; have HR7 := Lib.hid hr7; have HC7 := Lib.hid hc7; clear hr7 hc7)))
              | (go_upto_region 13 with (fail))
            refine wp_gen (fun W => ∃ C : List Int, C.length = 32 ∧ Bytes C ∧ PD = dsha (A ++ C) ∧ Keeps wr W ∧ Row W q 0 (A.map (Value.int .u8)) ∧ Row W q6 0 (C.map (Value.int .u8))) ?_ ?_
            focus
              first
                | exact ⟨B, HBL.out, (HNX.out hb).2, HPD.out, keeps_chg HK6.out HC7.out hw6, HR5'.out.chg HC7.out (by omega), HR7.out⟩
                | exact ⟨A, HAL.out, HOK.out.2, HPD.out, HK6.out, HR5'.out, HR6.out⟩
            clear HPD HK6 HR5' HR6
            intro W8 ⟨C, hcl, hcb, hpd, hk8, hra, hrc⟩
            have HCL := Lib.hid hcl; have HCB := Lib.hid hcb; have HPD := Lib.hid hpd; have HK8 := Lib.hid hk8; have HRA := Lib.hid hra; have HRC := Lib.hid hrc
            clear hcl hcb hpd hk8 hra hrc
            refine wp_region_head (S := fun W => Hid ((fun W => Keeps W8 W) W)) 8 (by kernel_rfl) (by kernel_rfl) ?_ (fun hHeld => ?_)
            focus exact Lib.hid (keeps_drew (Keeps.refl _))
            refine wpAnyHL_take (i := 0) (oi := ?_) (v := ?_) ?_ ?_ ?_ ?_ ?_ ?_ ?_ ?_ ?_ (Or.inl ⟨?_, ?_⟩) ?_ ?_
            rotate_left 2
            focus (simp only [List.getElem?_toArray, List.getElem?_cons_succ, List.getElem?_cons_zero]; exact rfl)
            focus kernel_rfl
            focus kernel_rfl
            focus kernel_rfl
            focus kernel_rfl
            focus kernel_rfl
            focus kernel_rfl
            focus kernel_rfl
            focus (exact fun _ _ _ h => h)
            focus rfl
            focus ((intro wSw hSw; (have hSw := hSw.out); (try dsimp only at hSw); go_simp) <;> with_reducible rfl)
            focus assumption
            try simp only [Act.put, List.setIfInBounds_toArray, List.set_cons_zero, List.set_cons_succ]
            refine wpAnyHL_take (i := 2) (oi := ?_) (v := ?_) ?_ ?_ ?_ ?_ ?_ ?_ ?_ ?_ ?_ (Or.inl ⟨?_, ?_⟩) ?_ ?_
            rotate_left 2
            focus (simp only [List.getElem?_toArray, List.getElem?_cons_succ, List.getElem?_cons_zero]; exact rfl)
            focus kernel_rfl
            focus kernel_rfl
            focus kernel_rfl
            focus kernel_rfl
            focus kernel_rfl
            focus kernel_rfl
            focus kernel_rfl
            focus (exact fun _ _ _ h => h)
            focus rfl
            focus ((intro wSw hSw; (have hSw := hSw.out); (try dsimp only at hSw); go_simp) <;> with_reducible rfl)
            focus assumption
            try simp only [Act.put, List.setIfInBounds_toArray, List.set_cons_zero, List.set_cons_succ]
            refine wpAnyHL_take (i := 4) (oi := ?_) (v := ?_) ?_ ?_ ?_ ?_ ?_ ?_ ?_ ?_ ?_ (Or.inl ⟨?_, ?_⟩) ?_ ?_
            rotate_left 2
            focus (simp only [List.getElem?_toArray, List.getElem?_cons_succ, List.getElem?_cons_zero]; exact rfl)
            focus kernel_rfl
            focus kernel_rfl
            focus kernel_rfl
            focus kernel_rfl
            focus kernel_rfl
            focus kernel_rfl
            focus kernel_rfl
            focus (exact fun _ _ _ h => h)
            focus rfl
            focus ((intro wSw hSw; (have hSw := hSw.out); (try dsimp only at hSw); go_simp) <;> with_reducible rfl)
            focus assumption
            try simp only [Act.put, List.setIfInBounds_toArray, List.set_cons_zero, List.set_cons_succ]
            refine wpAnyHL_one (i := 1) (o := ?_) (by kernel_rfl) (by kernel_rfl) ?_ ?_
            rotate_left 1
            focus (simp only [List.getElem?_toArray, List.getElem?_cons_succ, List.getElem?_cons_zero]; exact rfl)
            go_wp2
            try dsimp only [StepQ]
            refine ⟨?_, fun hHeld => ?_⟩
            focus (exact Lib.hid (keeps_alloc hHeld.out _))
            try simp only [Act.put, List.setIfInBounds_toArray, List.set_cons_zero, List.set_cons_succ]
            refine wpAnyHL_one (i := 3) (o := ?_) (by kernel_rfl) (by kernel_rfl) ?_ ?_
            rotate_left 1
            focus (simp only [List.getElem?_toArray, List.getElem?_cons_succ, List.getElem?_cons_zero]; exact rfl)
            go_wp2_with (at_builtin; refine own_append rfl (.tmp 39) (.tmp 40) rfl (Own.made W8.drew 5) (Keeps.refl _) rfl _ rfl 32 A ((row_rd32 (HRA.out.keeps hHeld.out) HAL.out).src Tryd.underlying44 (int_oneCell A)) (by omega) ?_; intro v2 W9 hO9 hG9; rw [Nat.zero_add, List.nil_append] at hO9; obtain ⟨a9, c9, rfl⟩ := hO9.any; have HO9 := Lib.hid hO9; clear hO9 hG9)
            try dsimp only [StepQ]
            refine ⟨?_, fun hHeld => ?_⟩
            focus (exact Lib.hid ((keeps_drew (Keeps.refl W8)).trans HO9.out.keeps))
            try simp only [Act.put, List.setIfInBounds_toArray, List.set_cons_zero, List.set_cons_succ]
            refine wpAnyHL_one (i := 5) (o := ?_) (by kernel_rfl) (by kernel_rfl) ?_ ?_
            rotate_left 1
            focus (simp only [List.getElem?_toArray, List.getElem?_cons_succ, List.getElem?_cons_zero]; exact rfl)
            go_wp2_with (at_builtin; refine own_append rfl (.tmp 41) (.tmp 42) rfl HO9.out (Keeps.refl _) rfl _ rfl 32 C ((row_rd32 (HRC.out.keeps hHeld.out) HCL.out).src Tryd.underlying44 (int_oneCell C)) (by omega) ?_; intro v2 WA hOA hGA; obtain ⟨aA, cA, rfl⟩ := hOA.any; have HOA := Lib.hid hOA; clear hOA hGA)
            try dsimp only [StepQ]
            refine ⟨?_, fun hHeld => ?_⟩
            focus (exact Lib.hid ((keeps_drew (Keeps.refl W8)).trans HOA.out.keeps))
            try simp only [Act.put, List.setIfInBounds_toArray, List.set_cons_zero, List.set_cons_succ]
            refine wpAnyHL_one (i := 6) (o := ?_) (by kernel_rfl) (by kernel_rfl) ?_ ?_
            rotate_left 1
            focus (simp only [List.getElem?_toArray, List.getElem?_cons_succ, List.getElem?_cons_zero]; exact rfl)
            go_wp2_with (go_at_call 32; refine (ref_double _ (32 + 32) (A ++ C) _ HOA.out.rd (Bytes.app HOK.out.2 HCB.out) (by omega)).mono ?_; rintro e WB ⟨rfl, hkb⟩; have HKB := Lib.hid hkb; clear hkb)
            try dsimp only [StepQ]
            refine ⟨?_, fun hHeld => ?_⟩
            focus (exact Lib.hid (hHeld.out.trans HKB.out))
            try simp only [Act.put, List.setIfInBounds_toArray, List.set_cons_zero, List.set_cons_succ]
            have HKZ := Lib.hid hHeld.out
            refine wpAnyHL_one (i := 7) (o := ?_) (by kernel_rfl) (by kernel_rfl) ?_ ?_
            rotate_left 1
            focus (simp only [List.getElem?_toArray, List.getElem?_cons_succ, List.getElem?_cons_zero]; exact rfl)
            go_wp2_with (refine wpList_buildSlice1 rfl 33 23 _ rfl 32 32 Tryd.underlying33 h32_info h32_zero (by decide) ((dsha (A ++ C)).map (Value.int .u8)) rfl (by rw [List.length_map, dsha_length]) ?_)
            try dsimp only [StepQ]
            refine ⟨?_, fun hHeld => ?_⟩
            focus (exact Lib.hid (keeps_alloc hHeld.out _))
            try simp only [Act.put, List.setIfInBounds_toArray, List.set_cons_zero, List.set_cons_succ]
            refine wpAnyHL_done (by kernel_rfl) ?_
            try simp only [List.drop_succ_cons, List.drop_zero]
            have hks : (k + 1) * 32 ≤ 140737488355328 := by have := HJ.out; omega
            go_wp2_with (at_builtin; refine ownh_append1 rfl _ _ rfl HOW.out HIL.out (HK8.out.trans HKZ.out) rfl (dsha_length (A ++ C)) (dsha_bytes (A ++ C)) 1 23 _ rfl rfl hks ?_; intro v9 w9 h9; have H9 := Lib.hid h9; clear h9)
            have h10 := H9.out
            rw [← HPD.out, ← HTK.out] at h10
            have H10 := Lib.hid h10
            clear h10 hks
            go_roundw
            case rel => exact ⟨k + 1, j + 2, by have := HJ.out; omega, by go_num, by omega, Lib.hid (by have := HJ.out; omega), H10⟩
            case measure => simp [intOf]; omega
        · have hfull : (upD l).take k = upD l := upD_full l k (by have := HJ.out; omega)
          rw [hfull] at HOW
          have hrh : RH wr (.slice va k vc) (upD l) := HOW.out.rh (by rw [hul]; omega)
          have HRH := Lib.hid hrh
          have HKW := Lib.hid HOW.out.keeps
          have HCALL := Lib.hid (HIH.out (upD l) (by rw [hul]; omega) _ wr hrh)
          rw [← HUP.out] at HCALL
          clear hrh hfull HOW HRH
          go_wp2_with (first | (go_at_call 9; refine HCALL.out.mono ?_; rintro e W8 ⟨rfl, hk8⟩; have HK8 := Lib.hid hk8; clear hk8) | ((with_reducible refine gate_store 23 (.tmp 2) (.tmp 48) ?_); refine wpList_store_row rfl 23 (.tmp 2) (.tmp 48) rfl p 0 rfl z32 (MD.map (Value.int .u8)) rfl ((HR.out.keeps HKW.out).keeps HK8.out) (by rw [List.length_map, HML.out]; rfl) Z32.out (int_oneCell _) ?_; intro W9 hr9 hc9; have HR9 := Lib.hid hr9; have HC9 := Lib.hid hc9; clear hr9 hc9))
          refine bodyPost_ret (v := .agg (MD.map (Value.int .u8)).toArray) (results_cell_at (p := 2) (ty := 23) rfl _ _ p 0 _ _ rfl HR9.out Tryd.underlying23 rfl Z32.out) rfl ?_
          exact ⟨rfl, keeps_chg ((HK.out.trans HKW.out).trans HK8.out) HC9.out (by have := HP.out; omega)⟩
end Go.Proofs.YtclhjlkgmeofcaaDoor
