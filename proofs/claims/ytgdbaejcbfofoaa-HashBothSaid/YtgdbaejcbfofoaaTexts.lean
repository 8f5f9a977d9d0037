/- HashTexts: a digest is shown and read back; other texts are refused. The walk: true, whatever the digest and the text. -/
import Derived.Test.YtgdbaejcbfofoaaTextLaws
import Derived.Test.YtgdbaejcbfofoaaPieces
namespace Go.Proofs.Ytgdbaejcbfofoaa
set_option linter.unusedVariables false
set_option linter.unusedSimpArgs false
open Go Go.RowKit

/-- the same array twice -/
theorem wpList_neq_same {P : Program} {ops : Array Oper} {rest : List Oper} {o : Oper} {a : Act} {w : World} {Q : Exit → Act → World → Prop} (hw : Region.wanted o (yielded ops a.tmps) = true) (t t' : TypeId) (x y : Operand) (ho : o.op = .binOp .neq t x y t') (A : Array Value) (hx : a.eval x = .agg A) (hy : a.eval y = .agg A)
    (hE : ∀ W, (Op.equalIn 10000 t (.agg A) (.agg A)).run P W = .ok true W) (hm : P.eqGuardType P.depth t = false) (h : wpList P ops Q rest (a.put o.dst (.bool false)) w) : wpList P ops Q (o :: rest) a w :=
  BigFrame.wpList_want hw fun _ hK => by
    have h2 : (execOp a.eval o).run P w = .ok (.value (.bool false)) w := by
      unfold execOp
      simp only [ho, hx, hy]
      simp only [Sem.run_bind, Sem.run_pure, run_eqGuard_agg _ _ _ _ _ _ _ hm, run_neq_struct, hE, Result.andThen_ok]
      rfl
    unfold Oper.wp
    rw [h2]
    exact hK _ _ h
theorem wpList_eql_same {P : Program} {ops : Array Oper} {rest : List Oper} {o : Oper} {a : Act} {w : World} {Q : Exit → Act → World → Prop} (hw : Region.wanted o (yielded ops a.tmps) = true) (t t' : TypeId) (x y : Operand) (ho : o.op = .binOp .eql t x y t') (A : Array Value) (hx : a.eval x = .agg A) (hy : a.eval y = .agg A)
    (hE : ∀ W, (Op.equalIn 10000 t (.agg A) (.agg A)).run P W = .ok true W) (hm : P.eqGuardType P.depth t = false) (h : wpList P ops Q rest (a.put o.dst (.bool true)) w) : wpList P ops Q (o :: rest) a w :=
  BigFrame.wpList_want hw fun _ hK => by
    have h2 : (execOp a.eval o).run P w = .ok (.value (.bool true)) w := by
      unfold execOp
      simp only [ho, hx, hy]
      simp only [Sem.run_bind, Sem.run_pure, run_eqGuard_agg _ _ _ _ _ _ _ hm, run_eql_struct, hE, Result.andThen_ok]
    unfold Oper.wp
    rw [h2]
    exact hK _ _ h
set_option maxRecDepth 100000 in
set_option maxHeartbeats 4000000 in
theorem texts_any (h : List Int) (hh : Bytes h) (hl : h.length = 32) (s : ByteArray) (hmax : s.size ≤ maxLen) (w : World) :
    Calls Try.prog 4 #[.agg (h.map (Value.int .u8)).toArray, .string s] w fun e w' => e = .returned (.bool true) ∧ Keeps w w' := by
  have Z32 : Hid ((Try.prog.info? 37).map (·.size) = some (h.map (Value.int .u8)).length) := by
    rw [List.length_map, hl]; exact Lib.hid sz_hash2
  have hT : ∀ W, Calls Try.prog 21 #[.agg (h.map (Value.int .u8)).toArray] W fun e w' => e = .returned (.string ⟨(textB h).toArray⟩) ∧ Keeps W w' := fun W => text_any h hh hl W
  have hR : ∀ W, Calls Try.prog 23 #[.agg (h.map (Value.int .u8)).toArray] W fun e w' => e = .returned (.string ⟨(textB h).toArray⟩) ∧ Keeps W w' := fun W => refText_any h hh hl W
  have hlen : (textB h).length = 64 := by
    have := congrArg List.length (textI_textB hh)
    rw [hl, textI_length, List.length_map] at this; omega
  have hF : ∀ W, Calls Try.prog 22 #[.string ⟨(textB h).toArray⟩] W fun e w' => e = .returned (.tuple #[.agg (h.map (Value.int .u8)).toArray, .int .i64 0]) ∧ Keeps W w' := fun W => by
    refine (fromText_any ⟨(textB h).toArray⟩ (by show (textB h).toArray.size ≤ maxLen; simp [hlen]; decide) W).mono ?_
    rintro e w' ⟨L, E, rfl, hk, hp⟩
    obtain ⟨hg, hk2⟩ := ft_text hh hl
    rcases hp with ⟨_, rfl, rfl⟩ | ⟨hn, _⟩
    · rw [hk2]; exact ⟨rfl, hk⟩
    · exact absurd hg hn
  have hE : ∀ W, (Op.equalIn 10000 37 (.agg (h.map (Value.int .u8)).toArray) (.agg (h.map (Value.int .u8)).toArray)).run Try.prog W = .ok true W := fun W => equal_same W _ Try.underlying37 _ hh hl
  have HT := Lib.hid hT; have HR := Lib.hid hR; have HF := Lib.hid hF; have HFS := Lib.hid (fun W => fromText_any s hmax W)
  clear hT hR hF hlen
  generalize (⟨(textB h).toArray⟩ : ByteArray) = T at *
  go_enter Try.func4, Try.ntmps4
  go_upto_region 1 with (fail)
  obtain ⟨q, hq⟩ : ∃ q, q = w.heap.size := ⟨_, rfl⟩
  have hk0 : Keeps w (w.alloc (.cells (h.map (Value.int .u8)).toArray 37)) := keeps_alloc (Keeps.refl w) _
  have hr0 : Row (w.alloc (.cells (h.map (Value.int .u8)).toArray 37)) q 0 (h.map (Value.int .u8)) := by rw [hq]; exact Row.new _ _ _ rfl
  rw [← hq]
  clear hq
  refine wp_gen (fun W => Keeps w W ∧ Row W q 0 (h.map (Value.int .u8))) ⟨hk0, hr0⟩ ?_
  clear hk0 hr0
  intro W0 ⟨hk0, hr0⟩
  have HK0 := Lib.hid hk0; have HR0 := Lib.hid hr0
  clear hk0 hr0
  go_upto_region 3 with (go_at_call 11; refine (awake_any _).mono ?_; rintro e W1 ⟨rfl, hk1⟩; have HK1 := Lib.hid hk1; clear hk1)
  go_upto_region 4 with (first | (refine wpList_load_at rfl 37 (.tmp 2) rfl q 0 rfl _ _ (HR0.out.keeps HK1.out) Try.underlying37 rfl Z32.out ?_) | (go_at_call 21; refine (HT.out _).mono ?_; rintro e W2 ⟨rfl, hk2⟩; have HK2 := Lib.hid hk2; clear hk2))
  have Z0 : Hid ((h.map (Value.int .u8)).length = (List.replicate 32 (Value.int .u8 0)).length) := by
    rw [List.length_map, hl]; exact Lib.hid rfl
  go_upto_region 5 with (first | (go_at_call 22; refine (HF.out _).mono ?_; rintro e W3 ⟨rfl, hk3⟩; have HK3 := Lib.hid hk3; clear hk3) | (refine wpList_store_row rfl 37 (.tmp 6) (.tmp 18) rfl W3.heap.size 0 rfl (List.replicate 32 (Value.int .u8 0)) (h.map (Value.int .u8)) rfl (Row.new _ _ _ rfl) Z0.out Z32.out (int_oneCell _) ?_; intro W4 hr4 hc4; have HR4 := Lib.hid hr4; have HC4 := Lib.hid hc4; clear hr4 hc4))
  have hk03 : Keeps W0 W3 := (HK1.out.trans HK2.out).trans HK3.out
  have hk4 : Keeps W0 W4 := keeps_chg (keeps_alloc hk03 _) HC4.out hk03.size
  have HK4 := Lib.hid hk4
  generalize W3.heap.size = q2 at *
  clear hk03 hk4 HK1 HK2 HK3 HC4
  go_upto_region 7 with (first | (refine wpList_load_on (by kernel_rfl) 37 (.tmp 2) rfl q 0 rfl (h.map (Value.int .u8)) _ (by first | exact HR0.out.keeps HK4.out | exact (HR0.out.keeps HK4.out).keeps HK5.out) Try.underlying37 rfl Z32.out ?_) | (go_at_call 23; refine (HR.out _).mono ?_; rintro e W5 ⟨rfl, hk5⟩; have HK5 := Lib.hid hk5; clear hk5) | (refine wpList_load_on (by kernel_rfl) 37 (.tmp 6) rfl q2 0 rfl (h.map (Value.int .u8)) _ (HR4.out.keeps HK5.out) Try.underlying37 rfl Z32.out ?_) | (refine wpList_neq_same (by kernel_rfl) _ _ _ _ rfl _ rfl rfl hE (by kernel_rfl) ?_))
  have HK5b := Lib.hid (HK4.out.trans HK5.out)
  clear HR4 HK4 HK5 HT HR HF hE HR0 Z32 Z0
  go_upto_region 8 with (first | (go_at_call 22; refine (HFS.out _).mono ?_; rintro e W6 ⟨L, E, rfl, hk6, hft⟩; have HK6 := Lib.hid hk6; have HFT := Lib.hid hft; have hLl : L.length = 32 := (by rcases hft with ⟨_, rfl, _⟩ | ⟨_, rfl, _⟩ <;> first | exact ftK_length _ _ (Nat.le_refl _) | rfl); have ZL : Hid ((Try.prog.info? 37).map (·.size) = some (L.map (Value.int .u8)).length) := (by rw [List.length_map, hLl]; exact Lib.hid sz_hash2); clear hk6 hft) | (refine wpList_store_row rfl 37 (.tmp 8) (.tmp 36) rfl W6.heap.size 0 rfl (List.replicate 32 (Value.int .u8 0)) (L.map (Value.int .u8)) rfl (Row.new _ _ _ rfl) (by simp [hLl]) ZL.out (int_oneCell _) ?_; intro W7 hr7 hc7; have HR7 := Lib.hid hr7; have HC7 := Lib.hid hc7; clear hr7 hc7))
  have hk06 : Keeps W0 W6 := HK5b.out.trans HK6.out
  have hk7 : Keeps w W7 := HK0.out.trans (keeps_chg (keeps_alloc hk06 _) HC7.out hk06.size)
  have HK7 := Lib.hid hk7
  generalize W6.heap.size = q3 at *
  clear hk06 hk7 HK6 HC7 HK5b
  rcases HFT.out with ⟨hg, rfl, rfl⟩ | ⟨hng, rfl, rfl⟩
  · obtain ⟨ht1, ht2⟩ := text_ft hg
    have hT2 : ∀ W, Calls Try.prog 21 #[.agg ((ftK s 32).map (Value.int .u8)).toArray] W fun e w' => e = .returned (.string s) ∧ Keeps W w' := fun W => by
      have := text_any (ftK s 32) ht2 hLl W
      rw [ht1] at this
      exact this
    have HT2 := Lib.hid hT2
    have h64 : (s.size : Int) = 64 := by have := hg.1; omega
    clear hT2 ht1 ht2
    generalize ftK s 32 = L at *
    go_wp2_with (first | (refine wpList_load_at rfl 37 (.tmp 8) rfl q3 0 rfl _ _ HR7.out Try.underlying37 rfl ZL.out ?_) | (go_at_call 21; refine (HT2.out _).mono ?_; rintro e W8 ⟨rfl, hk8⟩; have HK8 := Lib.hid hk8; clear hk8))
    go_ret
    exact ⟨rfl, HK7.out.trans HK8.out⟩
  · have hbad : ∀ i : Nat, i ≤ s.size → (s.size = 64 ∧ ∀ j, j < i → 0 ≤ hexI (bAt s j)) → i = s.size → False := fun i hi h e => hng ⟨h.1, fun j hj => h.2 j (by omega)⟩
    have HBAD := Lib.hid hbad
    have hE : ∀ W, (Op.equalIn 10000 37 (.agg (zeroB.map (Value.int .u8)).toArray) (.agg (zeroB.map (Value.int .u8)).toArray)).run Try.prog W = .ok true W := fun W => equal_same W _ Try.underlying37 _ (by unfold zeroB Bytes Byte; decide) rfl
    have HE := Lib.hid hE
    clear hng hbad hE HFT
    unfold maxLen at hmax
    obtain ⟨g, hg⟩ : ∃ g : Bool, g = decide ((s.size : Int) = 64) := ⟨_, rfl⟩
    go_wp2
    go_loopw [9, 10] (fun cg ci wr => ∃ (i : Nat) (g : Bool), i ≤ s.size ∧ ci = .int .i64 i ∧ cg = .bool g ∧ wr = W7 ∧ (g = true → s.size = 64 ∧ ∀ j, j < i → 0 ≤ hexI (bAt s j))) (fun _ ci _ => (s.size - intOf ci).toNat)
    case atStart => exact ⟨0, g, by omega, rfl, by rw [hg]; rfl, rfl, fun h => ⟨by subst hg; have := of_decide_eq_true h; omega, fun j hj => by omega⟩⟩
    case round =>
      obtain ⟨i, g, hi, rfl, rfl, rfl, hgd⟩ := hrel
      have HGD := Lib.hid hgd
      clear hgd
      by_cases hlt : i < s.size ∧ g = true
      · obtain ⟨hlt, rfl⟩ := hlt
        have hi1 := fun W => run_index_string W s i hlt
        have hr := bAt_range s i
        have hx := hexI_all ⟨(bAt s i).toNat, by omega⟩
        simp only at hx
        rw [Int.toNat_of_nonneg hr.1] at hx
        have hx3 := hx.2.2
        have hnx : ∀ g : Bool, (g = true → 0 ≤ hexI (bAt s i)) → g = true → s.size = 64 ∧ ∀ j, j < i + 1 → 0 ≤ hexI (bAt s j) := fun g h1 h2 => ⟨(HGD.out rfl).1, fun j hj => by
          by_cases e : j = i
          · subst e; exact h1 h2
          · exact (HGD.out rfl).2 j (by omega)⟩
        have HNX := Lib.hid hnx; have HX3 := Lib.hid hx3
        clear hnx hx3 hx
        generalize hc : bAt s i = c at *
        generalize hexI c = x at *
        have hcs : c < 48 ∨ (48 ≤ c ∧ c ≤ 57) ∨ (57 < c ∧ c < 97) ∨ (97 ≤ c ∧ c ≤ 102) ∨ 102 < c := by omega
        clear hc
        rcases hcs with h1 | ⟨h1, h2⟩ | ⟨h1, h2⟩ | ⟨h1, h2⟩ | h1
        all_goals
          go_wp2
          go_roundw
          case rel => exact ⟨i + 1, _, by omega, by go_num, rfl, trivial, HNX.out _ (by first | (intro _; exact HX3.out.2 (by omega)) | (intro h; cases h; done) | (intro h; exfalso; have e1 : ¬ c ≤ 57 := (by omega); have e2 : ¬ c ≤ 102 := (by omega); simp [e1, e2] at h; done) | (intro h; exfalso; have e1 : ¬ c ≤ 57 := (by omega); simp [e1] at h <;> omega))⟩
          case measure => simp [intOf]; omega
      · have hgf : g = false := by
          cases g with
          | false => rfl
          | true => exact absurd (HBAD.out i hi (HGD.out rfl) (by have : ¬ i < s.size := fun h => hlt ⟨h, rfl⟩
                                                                  omega)) id
        subst hgf
        clear hlt HGD HBAD
        by_cases hlt : i < s.size
        all_goals
          go_wp2_with (first | (refine wpList_load_on (by kernel_rfl) 37 (.tmp 8) rfl q3 0 rfl _ _ HR7.out Try.underlying37 rfl ZL.out ?_) | (refine wpList_eql_same (by kernel_rfl) _ _ _ _ rfl _ rfl rfl HE.out (by kernel_rfl) ?_))
          go_ret
          exact ⟨rfl, HK7.out⟩
end Go.Proofs.Ytgdbaejcbfofoaa
