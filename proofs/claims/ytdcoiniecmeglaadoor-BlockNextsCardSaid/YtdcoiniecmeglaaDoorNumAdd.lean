/- block.Add: the sum of two numbers, the greatest one if it is beyond. -/
import Derived.Test.YtdcoiniecmeglaaDoorNumA
import Derived.Deep.RegionHeld3
import Derived.Deep.DeepCutAuto
namespace Go.Proofs.YtdcoiniecmeglaaDoor
set_option linter.unusedVariables false
set_option linter.unusedSimpArgs false
open Go Go.RowKit

theorem yieldsIf_row {P : Program} {ops : Array Oper} {S : World → Prop} {o : Oper} {a : Act} (hw : Region.wanted o (yielded ops a.tmps) = true) (ty : TypeId) (x : Operand) (ho : o.op = .load ty x)
    (g off : Nat) (hx : a.eval x = .pointer (some ⟨g, off, none⟩)) (cs : List Value) (d : TypeDesc) (hS : ∀ w, S w → Row w g off cs)
    (hu : P.underlying ty = some d) (hd : (match d with | .struct _ | .array _ _ => true | _ => false) = true) (hi : (P.info? ty).map (·.size) = some cs.length) : YieldsIf P ops S o (.agg cs.toArray) a :=
  .inl ⟨hw, fun w hw' => by
    unfold execOp
    simp only [ho, hx, Instr.loadAt, Instr.sureAddr, Sem.run_bind, Sem.run_pure, Result.andThen_ok, run_loadVar_at w g off ty cs d (hS w hw') hu hd hi]⟩
theorem wp_store_rowK {P : Program} {w : World} {o : Oper} {a : Act} {K : Act → World → Prop} {Q : Exit → Act → World → Prop} (T : TypeId) (x y : Operand) (ho : o.op = .store T x y)
    (g off : Nat) (hx : a.eval x = .pointer (some ⟨g, off, none⟩)) (olds cs : List Value) (hy : a.eval y = .agg cs.toArray) (hg : Row w g off olds) (hl : cs.length = olds.length)
    (hi : (P.info? T).map (·.size) = some cs.length) (h1 : ∀ v ∈ cs, v.oneCell' = true)
    (h : ∀ w', Row w' g off cs → Chg (· = g) w w' → K (a.put o.dst undef) w') : o.wp P a w K Q := by
  unfold Oper.wp execOp
  simp only [ho, hx, hy, Instr.storeAt, Instr.sureAddr, Sem.run_bind, Sem.run_pure, Result.andThen_ok, run_storeVar_row w g off T olds cs hg hl hi h1]
  exact h _ (hg.whole hl) (setCells_chg _ _ _ _)
/-- an order's end: the words' sum lies in a block of its own -/
structure AddMid (W wx : World) (s5 : Value) (p : Nat) (cs : List Value) : Prop where
  keeps : Keeps W wx
  at_ : ∃ g, s5 = .pointer (some ⟨g, 0, none⟩) ∧ W.heap.size ≤ g ∧ Row wx g 0 cs
theorem number_max (w : World) : Calls Tryd.prog 25 #[.agg #[.int .u64 18446744073709551615, .int .u64 18446744073709551615, .int .u64 18446744073709551615, .int .u64 18446744073709551615]] w fun e w' => e = .returned (.agg ((List.replicate 32 (255 : Int)).map (Value.int .u8)).toArray) ∧ Keeps w w' := by
  have h := number_any 115792089237316195423570985008687907853269984665640564039457584007913129639935 w
  rw [show words 115792089237316195423570985008687907853269984665640564039457584007913129639935 = [18446744073709551615, 18446744073709551615, 18446744073709551615, 18446744073709551615] by decide +kernel, show toB 32 115792089237316195423570985008687907853269984665640564039457584007913129639935 = List.replicate 32 (255 : Int) by decide +kernel] at h
  exact h
set_option maxRecDepth 100000 in
set_option maxHeartbeats 4000000 in
theorem badd_any (a b : List Int) (ha : Bytes a) (hb : Bytes b) (hla : a.length = 32) (hlb : b.length = 32) (w : World) :
    Calls Tryd.prog 9 #[.agg (a.map (Value.int .u8)).toArray, .agg (b.map (Value.int .u8)).toArray] w fun e w' => e = .returned (.agg ((addB a b).map (Value.int .u8)).toArray) ∧ Keeps w w' := by
  have hw1 := words_any a ha hla
  have hw2 := words_any b hb hlb
  have hw3 := wadd_any (be a) (be b)
  have r1 := be_range ha
  have r2 := be_range hb
  rw [hla] at r1
  rw [hlb] at r2
  have hc4 : wcarry (be a) (be b) 4 = (be a + be b) / 256 ^ 32 := wcarry_four r1.1 r1.2 r2.1 r2.2
  rw [hc4] at hw3
  have hl1 := words_length (be a)
  have hl2 := words_length (be b)
  have hl3 := words_length (be a + be b)
  have hn1 := number_any (be a + be b)
  generalize words (be a) = U at *
  generalize words (be b) = V at *
  generalize words (be a + be b) = R at *
  have HW1 := Lib.hid hw1; have HW2 := Lib.hid hw2; have HW3 := Lib.hid hw3; have HN1 := Lib.hid hn1
  clear hw1 hw2 hw3 hn1 r1 r2 hc4
  go_enter Tryd.func9, Tryd.ntmps9
  go_upto_region 1 with (fail)
  refine wp_rows3 (fun W hk hra hrb hr2 hs => ?_)
  obtain ⟨p, hp⟩ : ∃ p, p = w.heap.size := ⟨_, rfl⟩
  rw [← hp] at hra hrb hr2 hs ⊢
  have hkp : w.heap.size ≤ p := by omega
  obtain ⟨Z, hZ, hrz⟩ : ∃ Z : List Value, Z.length = 32 ∧ Row W (p + 1 + 1) 0 Z := ⟨_, rfl, hr2⟩
  have HRA := Lib.hid (show Row W p 0 (a.map (Value.int .u8)) from hra); have HRB := Lib.hid (show Row W (p + 1) 0 (b.map (Value.int .u8)) from hrb); have HRZ := Lib.hid hrz; have HK := Lib.hid hk
  clear hp hra hrb hr2 hrz hk hs
  generalize hCC : (be a + be b) / 256 ^ 32 = C at *
  have HCC := Lib.hid hCC
  clear hCC
  go_cut [5, 6] (fun s5 s6 wx => AddMid W wx s5 p (R.map (Value.int .u64)) ∧ s6 = .int .u64 C)
  case first =>
    refine wp_region_held_drew (S := (fun W' => Keeps W W')) (by kernel_rfl) ?_ (fun hHeld => ?_)
    focus ((try dsimp only); exact keeps_drew1 (Keeps.refl _))
    generalize W.drew = W0 at hHeld ⊢
    refine wpAnyH_take (i := 0) (oi := ?_) (v := ?_) ?_ ?_ ?_ ?_ ?_ ?_ ?_ ?_
    rotate_left 2
    focus (simp only [List.getElem?_toArray, List.getElem?_cons_succ, List.getElem?_cons_zero]; exact rfl)
    focus kernel_rfl
    focus kernel_rfl
    focus kernel_rfl
    focus (exact fun _ _ _ h => h)
    focus (refine yieldsIf_row ?_ 23 (.tmp 2) ?_ p 0 ?_ (a.map (Value.int .u8)) _ ?_ Tryd.underlying23 ?_ (by rw [List.length_map, hla]; exact sz_number) <;> first | rfl | exact (fun w hw => HRA.out.keeps hw))
    focus assumption
    try simp only [Act.put, List.setIfInBounds_toArray, List.set_cons_zero, List.set_cons_succ]
    refine wpAnyH_take (i := 2) (oi := ?_) (v := ?_) ?_ ?_ ?_ ?_ ?_ ?_ ?_ ?_
    rotate_left 2
    focus (simp only [List.getElem?_toArray, List.getElem?_cons_succ, List.getElem?_cons_zero]; exact rfl)
    focus kernel_rfl
    focus kernel_rfl
    focus kernel_rfl
    focus (exact fun _ _ _ h => h)
    focus (refine yieldsIf_row ?_ 23 (.tmp 3) ?_ (p + 1) 0 ?_ (b.map (Value.int .u8)) _ ?_ Tryd.underlying23 ?_ (by rw [List.length_map, hlb]; exact sz_number) <;> first | rfl | exact (fun w hw => HRB.out.keeps hw))
    focus assumption
    try simp only [Act.put, List.setIfInBounds_toArray, List.set_cons_zero, List.set_cons_succ]
    refine wpAnyH_ready (rs := [1, 8]) (by kernel_rfl) (by simp) ?_
    refine AllReadyH.cons (o := ?_) ?_ (fun K hK => ?_) ?_
    rotate_left 1
    focus (simp only [List.getElem?_toArray, List.getElem?_cons_succ, List.getElem?_cons_zero]; exact rfl)
    · rw [if_pos (by rfl)]
      go_simp; go_at_call 23; refine (HW1.out _).mono ?_; rintro e W1 ⟨rfl, hk1⟩
      refine hK.out _ _ ?_ ?_
      focus ((try dsimp only); first | exact Keeps.trans (by assumption) (by assumption) | exact keeps_alloc (by assumption) _ | exact hHeld | exact keeps_chg (by assumption) hc9 hg8)
      clear hK K hHeld
      intro hHeld
      try simp only [Act.put, List.setIfInBounds_toArray, List.set_cons_zero, List.set_cons_succ]
      refine wpAnyH_ready (rs := [3, 8]) (by kernel_rfl) (by simp) ?_
      refine AllReadyH.cons (o := ?_) ?_ (fun K hK => ?_) ?_
      rotate_left 1
      focus (simp only [List.getElem?_toArray, List.getElem?_cons_succ, List.getElem?_cons_zero]; exact rfl)
      · rw [if_pos (by rfl)]
        go_simp; go_at_call 23; refine (HW2.out _).mono ?_; rintro e W2 ⟨rfl, hk2⟩
        refine hK.out _ _ ?_ ?_
        focus ((try dsimp only); first | exact Keeps.trans (by assumption) (by assumption) | exact keeps_alloc (by assumption) _ | exact hHeld | exact keeps_chg (by assumption) hc9 hg8)
        clear hK K hHeld
        intro hHeld
        try simp only [Act.put, List.setIfInBounds_toArray, List.set_cons_zero, List.set_cons_succ]
        refine wpAnyH_ready (rs := [4, 8]) (by kernel_rfl) (by simp) ?_
        refine AllReadyH.cons (o := ?_) ?_ (fun K hK => ?_) ?_
        rotate_left 1
        focus (simp only [List.getElem?_toArray, List.getElem?_cons_succ, List.getElem?_cons_zero]; exact rfl)
        · rw [if_pos (by rfl)]
          go_simp; go_at_call 24; refine (HW3.out _).mono ?_; rintro e W3 ⟨rfl, hk3⟩
          refine hK.out _ _ ?_ ?_
          focus ((try dsimp only); first | exact Keeps.trans (by assumption) (by assumption) | exact keeps_alloc (by assumption) _ | exact hHeld | exact keeps_chg (by assumption) hc9 hg8)
          clear hK K hHeld
          intro hHeld
          try simp only [Act.put, List.setIfInBounds_toArray, List.set_cons_zero, List.set_cons_succ]
          refine wpAnyH_take (i := 5) (oi := ?_) (v := ?_) ?_ ?_ ?_ ?_ ?_ (Or.inl ⟨?_, ?_⟩) ?_ ?_
          rotate_left 2
          focus (simp only [List.getElem?_toArray, List.getElem?_cons_succ, List.getElem?_cons_zero]; exact rfl)
          focus kernel_rfl
          focus kernel_rfl
          focus kernel_rfl
          focus (exact fun _ _ _ h => h)
          focus rfl
          focus ((intro w hSw; (try dsimp only at hSw); go_simp) <;> with_reducible rfl)
          focus assumption
          try simp only [Act.put, List.setIfInBounds_toArray, List.set_cons_zero, List.set_cons_succ]
          refine wpAnyH_take (i := 6) (oi := ?_) (v := ?_) ?_ ?_ ?_ ?_ ?_ (Or.inl ⟨?_, ?_⟩) ?_ ?_
          rotate_left 2
          focus (simp only [List.getElem?_toArray, List.getElem?_cons_succ, List.getElem?_cons_zero]; exact rfl)
          focus kernel_rfl
          focus kernel_rfl
          focus kernel_rfl
          focus (exact fun _ _ _ h => h)
          focus rfl
          focus ((intro w hSw; (try dsimp only at hSw); go_simp) <;> with_reducible rfl)
          focus assumption
          try simp only [Act.put, List.setIfInBounds_toArray, List.set_cons_zero, List.set_cons_succ]
          refine wpAnyH_take (i := 7) (oi := ?_) (v := ?_) ?_ ?_ ?_ ?_ ?_ (Or.inl ⟨?_, ?_⟩) ?_ ?_
          rotate_left 2
          focus (simp only [List.getElem?_toArray, List.getElem?_cons_succ, List.getElem?_cons_zero]; exact rfl)
          focus kernel_rfl
          focus kernel_rfl
          focus kernel_rfl
          focus (exact fun _ _ _ h => h)
          focus rfl
          focus ((intro w hSw; (try dsimp only at hSw); go_simp) <;> with_reducible rfl)
          focus assumption
          try simp only [Act.put, List.setIfInBounds_toArray, List.set_cons_zero, List.set_cons_succ]
          refine wpAnyH_ready (rs := [8]) (by kernel_rfl) (by simp) ?_
          refine AllReadyH.cons (o := ?_) ?_ (fun K hK => ?_) ?_
          rotate_left 1
          focus (simp only [List.getElem?_toArray, List.getElem?_cons_succ, List.getElem?_cons_zero]; exact rfl)
          · rw [if_pos (by rfl)]
            go_simp; have hg8 := hHeld.size
            refine hK.out _ _ ?_ ?_
            focus ((try dsimp only); first | exact Keeps.trans (by assumption) (by assumption) | exact keeps_alloc (by assumption) _ | exact hHeld | exact keeps_chg (by assumption) hc9 hg8)
            clear hK K hHeld
            intro hHeld
            try simp only [Act.put, List.setIfInBounds_toArray, List.set_cons_zero, List.set_cons_succ]
            refine wpAnyH_ready (rs := [9]) (by kernel_rfl) (by simp) ?_
            refine AllReadyH.cons (o := ?_) ?_ (fun K hK => ?_) ?_
            rotate_left 1
            focus (simp only [List.getElem?_toArray, List.getElem?_cons_succ, List.getElem?_cons_zero]; exact rfl)
            · rw [if_pos (by rfl)]
              refine wp_store_rowK 52 (.tmp 5) (.tmp 13) rfl _ 0 rfl [.int .u64 0, .int .u64 0, .int .u64 0, .int .u64 0] (R.map (Value.int .u64)) rfl (by first | exact Row.new _ _ _ rfl | exact (Row.new _ _ _ rfl).keeps hk3 | exact ((Row.new _ _ _ rfl).keeps hk2).keeps hk3 | exact (((Row.new _ _ _ rfl).keeps hk1).keeps hk2).keeps hk3) (by simp [hl3]) (by rw [List.length_map, hl3]; exact sz_words) (int_oneCell _) ?_; intro W9 hr9 hc9
              refine hK.out _ _ ?_ ?_
              focus ((try dsimp only); first | exact Keeps.trans (by assumption) (by assumption) | exact keeps_alloc (by assumption) _ | exact hHeld | exact keeps_chg (by assumption) hc9 hg8)
              clear hK K hHeld
              intro hHeld
              try simp only [Act.put, List.setIfInBounds_toArray, List.set_cons_zero, List.set_cons_succ]
              refine wpAnyH_ready (rs := [10]) (by kernel_rfl) (by simp) ?_
              refine AllReadyH.cons (o := ?_) ?_ (fun K hK => ?_) ?_
              rotate_left 1
              focus (simp only [List.getElem?_toArray, List.getElem?_cons_succ, List.getElem?_cons_zero]; exact rfl)
              · rw [if_pos (by rfl)]
                go_simp
                refine hK.out _ _ ?_ ?_
                focus ((try dsimp only); first | exact Keeps.trans (by assumption) (by assumption) | exact keeps_alloc (by assumption) _ | exact hHeld | exact keeps_chg (by assumption) hc9 hg8)
                clear hK K hHeld
                intro hHeld
                try simp only [Act.put, List.setIfInBounds_toArray, List.set_cons_zero, List.set_cons_succ]
                refine wpAnyH_done (by kernel_rfl) ?_ _
                (go_wp2; go_meet; case rel => exact ⟨⟨by assumption, _, rfl, hg8, hr9⟩, rfl⟩)
              exact AllReadyH.nil
            exact AllReadyH.nil
          exact AllReadyH.nil
        refine AllReadyH.cons (o := ?_) ?_ (fun K hK => ?_) ?_
        rotate_left 1
        focus (simp only [List.getElem?_toArray, List.getElem?_cons_succ, List.getElem?_cons_zero]; exact rfl)
        · rw [if_pos (by rfl)]
          go_simp; have hg8 := hHeld.size
          refine hK.out _ _ ?_ ?_
          focus ((try dsimp only); first | exact Keeps.trans (by assumption) (by assumption) | exact keeps_alloc (by assumption) _ | exact hHeld | exact keeps_chg (by assumption) hc9 hg8)
          clear hK K hHeld
          intro hHeld
          try simp only [Act.put, List.setIfInBounds_toArray, List.set_cons_zero, List.set_cons_succ]
          refine wpAnyH_ready (rs := [4]) (by kernel_rfl) (by simp) ?_
          refine AllReadyH.cons (o := ?_) ?_ (fun K hK => ?_) ?_
          rotate_left 1
          focus (simp only [List.getElem?_toArray, List.getElem?_cons_succ, List.getElem?_cons_zero]; exact rfl)
          · rw [if_pos (by rfl)]
            go_simp; go_at_call 24; refine (HW3.out _).mono ?_; rintro e W3 ⟨rfl, hk3⟩
            refine hK.out _ _ ?_ ?_
            focus ((try dsimp only); first | exact Keeps.trans (by assumption) (by assumption) | exact keeps_alloc (by assumption) _ | exact hHeld | exact keeps_chg (by assumption) hc9 hg8)
            clear hK K hHeld
            intro hHeld
            try simp only [Act.put, List.setIfInBounds_toArray, List.set_cons_zero, List.set_cons_succ]
            refine wpAnyH_take (i := 5) (oi := ?_) (v := ?_) ?_ ?_ ?_ ?_ ?_ (Or.inl ⟨?_, ?_⟩) ?_ ?_
            rotate_left 2
            focus (simp only [List.getElem?_toArray, List.getElem?_cons_succ, List.getElem?_cons_zero]; exact rfl)
            focus kernel_rfl
            focus kernel_rfl
            focus kernel_rfl
            focus (exact fun _ _ _ h => h)
            focus rfl
            focus ((intro w hSw; (try dsimp only at hSw); go_simp) <;> with_reducible rfl)
            focus assumption
            try simp only [Act.put, List.setIfInBounds_toArray, List.set_cons_zero, List.set_cons_succ]
            refine wpAnyH_take (i := 6) (oi := ?_) (v := ?_) ?_ ?_ ?_ ?_ ?_ (Or.inl ⟨?_, ?_⟩) ?_ ?_
            rotate_left 2
            focus (simp only [List.getElem?_toArray, List.getElem?_cons_succ, List.getElem?_cons_zero]; exact rfl)
            focus kernel_rfl
            focus kernel_rfl
            focus kernel_rfl
            focus (exact fun _ _ _ h => h)
            focus rfl
            focus ((intro w hSw; (try dsimp only at hSw); go_simp) <;> with_reducible rfl)
            focus assumption
            try simp only [Act.put, List.setIfInBounds_toArray, List.set_cons_zero, List.set_cons_succ]
            refine wpAnyH_take (i := 7) (oi := ?_) (v := ?_) ?_ ?_ ?_ ?_ ?_ (Or.inl ⟨?_, ?_⟩) ?_ ?_
            rotate_left 2
            focus (simp only [List.getElem?_toArray, List.getElem?_cons_succ, List.getElem?_cons_zero]; exact rfl)
            focus kernel_rfl
            focus kernel_rfl
            focus kernel_rfl
            focus (exact fun _ _ _ h => h)
            focus rfl
            focus ((intro w hSw; (try dsimp only at hSw); go_simp) <;> with_reducible rfl)
            focus assumption
            try simp only [Act.put, List.setIfInBounds_toArray, List.set_cons_zero, List.set_cons_succ]
            refine wpAnyH_ready (rs := [9]) (by kernel_rfl) (by simp) ?_
            refine AllReadyH.cons (o := ?_) ?_ (fun K hK => ?_) ?_
            rotate_left 1
            focus (simp only [List.getElem?_toArray, List.getElem?_cons_succ, List.getElem?_cons_zero]; exact rfl)
            · rw [if_pos (by rfl)]
              refine wp_store_rowK 52 (.tmp 5) (.tmp 13) rfl _ 0 rfl [.int .u64 0, .int .u64 0, .int .u64 0, .int .u64 0] (R.map (Value.int .u64)) rfl (by first | exact Row.new _ _ _ rfl | exact (Row.new _ _ _ rfl).keeps hk3 | exact ((Row.new _ _ _ rfl).keeps hk2).keeps hk3 | exact (((Row.new _ _ _ rfl).keeps hk1).keeps hk2).keeps hk3) (by simp [hl3]) (by rw [List.length_map, hl3]; exact sz_words) (int_oneCell _) ?_; intro W9 hr9 hc9
              refine hK.out _ _ ?_ ?_
              focus ((try dsimp only); first | exact Keeps.trans (by assumption) (by assumption) | exact keeps_alloc (by assumption) _ | exact hHeld | exact keeps_chg (by assumption) hc9 hg8)
              clear hK K hHeld
              intro hHeld
              try simp only [Act.put, List.setIfInBounds_toArray, List.set_cons_zero, List.set_cons_succ]
              refine wpAnyH_ready (rs := [10]) (by kernel_rfl) (by simp) ?_
              refine AllReadyH.cons (o := ?_) ?_ (fun K hK => ?_) ?_
              rotate_left 1
              focus (simp only [List.getElem?_toArray, List.getElem?_cons_succ, List.getElem?_cons_zero]; exact rfl)
              · rw [if_pos (by rfl)]
                go_simp
                refine hK.out _ _ ?_ ?_
                focus ((try dsimp only); first | exact Keeps.trans (by assumption) (by assumption) | exact keeps_alloc (by assumption) _ | exact hHeld | exact keeps_chg (by assumption) hc9 hg8)
                clear hK K hHeld
                intro hHeld
                try simp only [Act.put, List.setIfInBounds_toArray, List.set_cons_zero, List.set_cons_succ]
                refine wpAnyH_done (by kernel_rfl) ?_ _
                (go_wp2; go_meet; case rel => exact ⟨⟨by assumption, _, rfl, hg8, hr9⟩, rfl⟩)
              exact AllReadyH.nil
            exact AllReadyH.nil
          exact AllReadyH.nil
        exact AllReadyH.nil
      refine AllReadyH.cons (o := ?_) ?_ (fun K hK => ?_) ?_
      rotate_left 1
      focus (simp only [List.getElem?_toArray, List.getElem?_cons_succ, List.getElem?_cons_zero]; exact rfl)
      · rw [if_pos (by rfl)]
        go_simp; have hg8 := hHeld.size
        refine hK.out _ _ ?_ ?_
        focus ((try dsimp only); first | exact Keeps.trans (by assumption) (by assumption) | exact keeps_alloc (by assumption) _ | exact hHeld | exact keeps_chg (by assumption) hc9 hg8)
        clear hK K hHeld
        intro hHeld
        try simp only [Act.put, List.setIfInBounds_toArray, List.set_cons_zero, List.set_cons_succ]
        refine wpAnyH_ready (rs := [3]) (by kernel_rfl) (by simp) ?_
        refine AllReadyH.cons (o := ?_) ?_ (fun K hK => ?_) ?_
        rotate_left 1
        focus (simp only [List.getElem?_toArray, List.getElem?_cons_succ, List.getElem?_cons_zero]; exact rfl)
        · rw [if_pos (by rfl)]
          go_simp; go_at_call 23; refine (HW2.out _).mono ?_; rintro e W2 ⟨rfl, hk2⟩
          refine hK.out _ _ ?_ ?_
          focus ((try dsimp only); first | exact Keeps.trans (by assumption) (by assumption) | exact keeps_alloc (by assumption) _ | exact hHeld | exact keeps_chg (by assumption) hc9 hg8)
          clear hK K hHeld
          intro hHeld
          try simp only [Act.put, List.setIfInBounds_toArray, List.set_cons_zero, List.set_cons_succ]
          refine wpAnyH_ready (rs := [4]) (by kernel_rfl) (by simp) ?_
          refine AllReadyH.cons (o := ?_) ?_ (fun K hK => ?_) ?_
          rotate_left 1
          focus (simp only [List.getElem?_toArray, List.getElem?_cons_succ, List.getElem?_cons_zero]; exact rfl)
          · rw [if_pos (by rfl)]
            go_simp; go_at_call 24; refine (HW3.out _).mono ?_; rintro e W3 ⟨rfl, hk3⟩
            refine hK.out _ _ ?_ ?_
            focus ((try dsimp only); first | exact Keeps.trans (by assumption) (by assumption) | exact keeps_alloc (by assumption) _ | exact hHeld | exact keeps_chg (by assumption) hc9 hg8)
            clear hK K hHeld
            intro hHeld
            try simp only [Act.put, List.setIfInBounds_toArray, List.set_cons_zero, List.set_cons_succ]
            refine wpAnyH_take (i := 5) (oi := ?_) (v := ?_) ?_ ?_ ?_ ?_ ?_ (Or.inl ⟨?_, ?_⟩) ?_ ?_
            rotate_left 2
            focus (simp only [List.getElem?_toArray, List.getElem?_cons_succ, List.getElem?_cons_zero]; exact rfl)
            focus kernel_rfl
            focus kernel_rfl
            focus kernel_rfl
            focus (exact fun _ _ _ h => h)
            focus rfl
            focus ((intro w hSw; (try dsimp only at hSw); go_simp) <;> with_reducible rfl)
            focus assumption
            try simp only [Act.put, List.setIfInBounds_toArray, List.set_cons_zero, List.set_cons_succ]
            refine wpAnyH_take (i := 6) (oi := ?_) (v := ?_) ?_ ?_ ?_ ?_ ?_ (Or.inl ⟨?_, ?_⟩) ?_ ?_
            rotate_left 2
            focus (simp only [List.getElem?_toArray, List.getElem?_cons_succ, List.getElem?_cons_zero]; exact rfl)
            focus kernel_rfl
            focus kernel_rfl
            focus kernel_rfl
            focus (exact fun _ _ _ h => h)
            focus rfl
            focus ((intro w hSw; (try dsimp only at hSw); go_simp) <;> with_reducible rfl)
            focus assumption
            try simp only [Act.put, List.setIfInBounds_toArray, List.set_cons_zero, List.set_cons_succ]
            refine wpAnyH_take (i := 7) (oi := ?_) (v := ?_) ?_ ?_ ?_ ?_ ?_ (Or.inl ⟨?_, ?_⟩) ?_ ?_
            rotate_left 2
            focus (simp only [List.getElem?_toArray, List.getElem?_cons_succ, List.getElem?_cons_zero]; exact rfl)
            focus kernel_rfl
            focus kernel_rfl
            focus kernel_rfl
            focus (exact fun _ _ _ h => h)
            focus rfl
            focus ((intro w hSw; (try dsimp only at hSw); go_simp) <;> with_reducible rfl)
            focus assumption
            try simp only [Act.put, List.setIfInBounds_toArray, List.set_cons_zero, List.set_cons_succ]
            refine wpAnyH_ready (rs := [9]) (by kernel_rfl) (by simp) ?_
            refine AllReadyH.cons (o := ?_) ?_ (fun K hK => ?_) ?_
            rotate_left 1
            focus (simp only [List.getElem?_toArray, List.getElem?_cons_succ, List.getElem?_cons_zero]; exact rfl)
            · rw [if_pos (by rfl)]
              refine wp_store_rowK 52 (.tmp 5) (.tmp 13) rfl _ 0 rfl [.int .u64 0, .int .u64 0, .int .u64 0, .int .u64 0] (R.map (Value.int .u64)) rfl (by first | exact Row.new _ _ _ rfl | exact (Row.new _ _ _ rfl).keeps hk3 | exact ((Row.new _ _ _ rfl).keeps hk2).keeps hk3 | exact (((Row.new _ _ _ rfl).keeps hk1).keeps hk2).keeps hk3) (by simp [hl3]) (by rw [List.length_map, hl3]; exact sz_words) (int_oneCell _) ?_; intro W9 hr9 hc9
              refine hK.out _ _ ?_ ?_
              focus ((try dsimp only); first | exact Keeps.trans (by assumption) (by assumption) | exact keeps_alloc (by assumption) _ | exact hHeld | exact keeps_chg (by assumption) hc9 hg8)
              clear hK K hHeld
              intro hHeld
              try simp only [Act.put, List.setIfInBounds_toArray, List.set_cons_zero, List.set_cons_succ]
              refine wpAnyH_ready (rs := [10]) (by kernel_rfl) (by simp) ?_
              refine AllReadyH.cons (o := ?_) ?_ (fun K hK => ?_) ?_
              rotate_left 1
              focus (simp only [List.getElem?_toArray, List.getElem?_cons_succ, List.getElem?_cons_zero]; exact rfl)
              · rw [if_pos (by rfl)]
                go_simp
                refine hK.out _ _ ?_ ?_
                focus ((try dsimp only); first | exact Keeps.trans (by assumption) (by assumption) | exact keeps_alloc (by assumption) _ | exact hHeld | exact keeps_chg (by assumption) hc9 hg8)
                clear hK K hHeld
                intro hHeld
                try simp only [Act.put, List.setIfInBounds_toArray, List.set_cons_zero, List.set_cons_succ]
                refine wpAnyH_done (by kernel_rfl) ?_ _
                (go_wp2; go_meet; case rel => exact ⟨⟨by assumption, _, rfl, hg8, hr9⟩, rfl⟩)
              exact AllReadyH.nil
            exact AllReadyH.nil
          exact AllReadyH.nil
        exact AllReadyH.nil
      exact AllReadyH.nil
    refine AllReadyH.cons (o := ?_) ?_ (fun K hK => ?_) ?_
    rotate_left 1
    focus (simp only [List.getElem?_toArray, List.getElem?_cons_succ, List.getElem?_cons_zero]; exact rfl)
    · rw [if_pos (by rfl)]
      go_simp; have hg8 := hHeld.size
      refine hK.out _ _ ?_ ?_
      focus ((try dsimp only); first | exact Keeps.trans (by assumption) (by assumption) | exact keeps_alloc (by assumption) _ | exact hHeld | exact keeps_chg (by assumption) hc9 hg8)
      clear hK K hHeld
      intro hHeld
      try simp only [Act.put, List.setIfInBounds_toArray, List.set_cons_zero, List.set_cons_succ]
      refine wpAnyH_ready (rs := [1]) (by kernel_rfl) (by simp) ?_
      refine AllReadyH.cons (o := ?_) ?_ (fun K hK => ?_) ?_
      rotate_left 1
      focus (simp only [List.getElem?_toArray, List.getElem?_cons_succ, List.getElem?_cons_zero]; exact rfl)
      · rw [if_pos (by rfl)]
        go_simp; go_at_call 23; refine (HW1.out _).mono ?_; rintro e W1 ⟨rfl, hk1⟩
        refine hK.out _ _ ?_ ?_
        focus ((try dsimp only); first | exact Keeps.trans (by assumption) (by assumption) | exact keeps_alloc (by assumption) _ | exact hHeld | exact keeps_chg (by assumption) hc9 hg8)
        clear hK K hHeld
        intro hHeld
        try simp only [Act.put, List.setIfInBounds_toArray, List.set_cons_zero, List.set_cons_succ]
        refine wpAnyH_ready (rs := [3]) (by kernel_rfl) (by simp) ?_
        refine AllReadyH.cons (o := ?_) ?_ (fun K hK => ?_) ?_
        rotate_left 1
        focus (simp only [List.getElem?_toArray, List.getElem?_cons_succ, List.getElem?_cons_zero]; exact rfl)
        · rw [if_pos (by rfl)]
          go_simp; go_at_call 23; refine (HW2.out _).mono ?_; rintro e W2 ⟨rfl, hk2⟩
          refine hK.out _ _ ?_ ?_
          focus ((try dsimp only); first | exact Keeps.trans (by assumption) (by assumption) | exact keeps_alloc (by assumption) _ | exact hHeld | exact keeps_chg (by assumption) hc9 hg8)
          clear hK K hHeld
          intro hHeld
          try simp only [Act.put, List.setIfInBounds_toArray, List.set_cons_zero, List.set_cons_succ]
          refine wpAnyH_ready (rs := [4]) (by kernel_rfl) (by simp) ?_
          refine AllReadyH.cons (o := ?_) ?_ (fun K hK => ?_) ?_
          rotate_left 1
          focus (simp only [List.getElem?_toArray, List.getElem?_cons_succ, List.getElem?_cons_zero]; exact rfl)
          · rw [if_pos (by rfl)]
            go_simp; go_at_call 24; refine (HW3.out _).mono ?_; rintro e W3 ⟨rfl, hk3⟩
            refine hK.out _ _ ?_ ?_
            focus ((try dsimp only); first | exact Keeps.trans (by assumption) (by assumption) | exact keeps_alloc (by assumption) _ | exact hHeld | exact keeps_chg (by assumption) hc9 hg8)
            clear hK K hHeld
            intro hHeld
            try simp only [Act.put, List.setIfInBounds_toArray, List.set_cons_zero, List.set_cons_succ]
            refine wpAnyH_take (i := 5) (oi := ?_) (v := ?_) ?_ ?_ ?_ ?_ ?_ (Or.inl ⟨?_, ?_⟩) ?_ ?_
            rotate_left 2
            focus (simp only [List.getElem?_toArray, List.getElem?_cons_succ, List.getElem?_cons_zero]; exact rfl)
            focus kernel_rfl
            focus kernel_rfl
            focus kernel_rfl
            focus (exact fun _ _ _ h => h)
            focus rfl
            focus ((intro w hSw; (try dsimp only at hSw); go_simp) <;> with_reducible rfl)
            focus assumption
            try simp only [Act.put, List.setIfInBounds_toArray, List.set_cons_zero, List.set_cons_succ]
            refine wpAnyH_take (i := 6) (oi := ?_) (v := ?_) ?_ ?_ ?_ ?_ ?_ (Or.inl ⟨?_, ?_⟩) ?_ ?_
            rotate_left 2
            focus (simp only [List.getElem?_toArray, List.getElem?_cons_succ, List.getElem?_cons_zero]; exact rfl)
            focus kernel_rfl
            focus kernel_rfl
            focus kernel_rfl
            focus (exact fun _ _ _ h => h)
            focus rfl
            focus ((intro w hSw; (try dsimp only at hSw); go_simp) <;> with_reducible rfl)
            focus assumption
            try simp only [Act.put, List.setIfInBounds_toArray, List.set_cons_zero, List.set_cons_succ]
            refine wpAnyH_take (i := 7) (oi := ?_) (v := ?_) ?_ ?_ ?_ ?_ ?_ (Or.inl ⟨?_, ?_⟩) ?_ ?_
            rotate_left 2
            focus (simp only [List.getElem?_toArray, List.getElem?_cons_succ, List.getElem?_cons_zero]; exact rfl)
            focus kernel_rfl
            focus kernel_rfl
            focus kernel_rfl
            focus (exact fun _ _ _ h => h)
            focus rfl
            focus ((intro w hSw; (try dsimp only at hSw); go_simp) <;> with_reducible rfl)
            focus assumption
            try simp only [Act.put, List.setIfInBounds_toArray, List.set_cons_zero, List.set_cons_succ]
            refine wpAnyH_ready (rs := [9]) (by kernel_rfl) (by simp) ?_
            refine AllReadyH.cons (o := ?_) ?_ (fun K hK => ?_) ?_
            rotate_left 1
            focus (simp only [List.getElem?_toArray, List.getElem?_cons_succ, List.getElem?_cons_zero]; exact rfl)
            · rw [if_pos (by rfl)]
              refine wp_store_rowK 52 (.tmp 5) (.tmp 13) rfl _ 0 rfl [.int .u64 0, .int .u64 0, .int .u64 0, .int .u64 0] (R.map (Value.int .u64)) rfl (by first | exact Row.new _ _ _ rfl | exact (Row.new _ _ _ rfl).keeps hk3 | exact ((Row.new _ _ _ rfl).keeps hk2).keeps hk3 | exact (((Row.new _ _ _ rfl).keeps hk1).keeps hk2).keeps hk3) (by simp [hl3]) (by rw [List.length_map, hl3]; exact sz_words) (int_oneCell _) ?_; intro W9 hr9 hc9
              refine hK.out _ _ ?_ ?_
              focus ((try dsimp only); first | exact Keeps.trans (by assumption) (by assumption) | exact keeps_alloc (by assumption) _ | exact hHeld | exact keeps_chg (by assumption) hc9 hg8)
              clear hK K hHeld
              intro hHeld
              try simp only [Act.put, List.setIfInBounds_toArray, List.set_cons_zero, List.set_cons_succ]
              refine wpAnyH_ready (rs := [10]) (by kernel_rfl) (by simp) ?_
              refine AllReadyH.cons (o := ?_) ?_ (fun K hK => ?_) ?_
              rotate_left 1
              focus (simp only [List.getElem?_toArray, List.getElem?_cons_succ, List.getElem?_cons_zero]; exact rfl)
              · rw [if_pos (by rfl)]
                go_simp
                refine hK.out _ _ ?_ ?_
                focus ((try dsimp only); first | exact Keeps.trans (by assumption) (by assumption) | exact keeps_alloc (by assumption) _ | exact hHeld | exact keeps_chg (by assumption) hc9 hg8)
                clear hK K hHeld
                intro hHeld
                try simp only [Act.put, List.setIfInBounds_toArray, List.set_cons_zero, List.set_cons_succ]
                refine wpAnyH_done (by kernel_rfl) ?_ _
                (go_wp2; go_meet; case rel => exact ⟨⟨by assumption, _, rfl, hg8, hr9⟩, rfl⟩)
              exact AllReadyH.nil
            exact AllReadyH.nil
          exact AllReadyH.nil
        exact AllReadyH.nil
      exact AllReadyH.nil
    exact AllReadyH.nil
  case rest =>
    obtain ⟨⟨hk, g, rfl, hg, hrg⟩, rfl⟩ := hcut
    have hkw := HK.out.trans hk
    have hrz2 := HRZ.out.keeps hk
    have hpw : w.heap.size ≤ p + 1 + 1 := by omega
    have HG := Lib.hid hrg; have HRZ2 := Lib.hid hrz2; have HKW := Lib.hid hkw
    clear hrg hrz2 hkw hk HRA HRB HRZ HK
    by_cases hc : 0 < C
    · have hadd : addB a b = List.replicate 32 255 := by unfold addB; rw [HCC.out, if_pos hc]
      have hd : decide ((C : Int) > 0) = true := by simpa using hc
      have hmx := number_max
      have hl9 : (List.replicate 32 (255 : Int)).length = 32 := by simp
      generalize List.replicate 32 (255 : Int) = RR at *
      have HMX := Lib.hid hmx; have HADD := Lib.hid hadd
      clear hmx hadd
      go_wp2_with (first | (go_at_call 25; refine (HMX.out _).mono ?_; rintro e W5 ⟨rfl, hk5⟩; have HK5 := Lib.hid hk5; clear hk5) | (refine wpList_store_row rfl 23 (.tmp 4) (.tmp 18) rfl (p + 1 + 1) 0 rfl Z (RR.map (Value.int .u8)) rfl (HRZ2.out.keeps HK5.out) (by rw [List.length_map, hl9, hZ]) (by rw [List.length_map, hl9]; exact sz_number) (int_oneCell _) ?_; intro w9 hr9 hc9; have H9 := Lib.hid hr9; have HC9 := Lib.hid hc9; clear hr9 hc9))
      exact bodyPost_ret (v := .agg (RR.map (Value.int .u8)).toArray) (results_cell_at (p := 4) (ty := 23) rfl _ _ (p + 1 + 1) 0 _ _ rfl H9.out Tryd.underlying23 rfl (by rw [List.length_map, hl9]; exact sz_number)) rfl ⟨by rw [HADD.out], keeps_chg (HKW.out.trans HK5.out) HC9.out hpw⟩
    · have hadd : addB a b = toB 32 (be a + be b) := by unfold addB; rw [HCC.out, if_neg hc]
      have hd : decide ((C : Int) > 0) = false := by simpa using hc
      have hl9 := toB_length 32 (be a + be b)
      generalize toB 32 (be a + be b) = RR at *
      have HADD := Lib.hid hadd
      clear hadd
      go_wp2_with (first | (refine wpList_load_at rfl 52 (.tmp 5) rfl g 0 rfl (R.map (Value.int .u64)) _ HG.out Tryd.underlying52 rfl (by rw [List.length_map, hl3]; exact sz_words) ?_) | (go_at_call 25; refine (HN1.out _).mono ?_; rintro e W5 ⟨rfl, hk5⟩; have HK5 := Lib.hid hk5; clear hk5) | (refine wpList_store_row rfl 23 (.tmp 4) (.tmp 20) rfl (p + 1 + 1) 0 rfl Z (RR.map (Value.int .u8)) rfl (HRZ2.out.keeps HK5.out) (by rw [List.length_map, hl9, hZ]) (by rw [List.length_map, hl9]; exact sz_number) (int_oneCell _) ?_; intro w9 hr9 hc9; have H9 := Lib.hid hr9; have HC9 := Lib.hid hc9; clear hr9 hc9))
      exact bodyPost_ret (v := .agg (RR.map (Value.int .u8)).toArray) (results_cell_at (p := 4) (ty := 23) rfl _ _ (p + 1 + 1) 0 _ _ rfl H9.out Tryd.underlying23 rfl (by rw [List.length_map, hl9]; exact sz_number)) rfl ⟨by rw [HADD.out], keeps_chg (HKW.out.trans HK5.out) HC9.out hpw⟩
end Go.Proofs.YtdcoiniecmeglaaDoor
