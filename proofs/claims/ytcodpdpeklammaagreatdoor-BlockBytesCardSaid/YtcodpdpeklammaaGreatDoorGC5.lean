/- block.expand, limit, Target; the reference's Limit and Target: bits as a number. -/
import Derived.Test.YtcodpdpeklammaaGreatDoorGC4
namespace Go.Proofs.YtcodpdpeklammaaGreatDoor
set_option linter.unusedVariables false
set_option linter.unusedSimpArgs false
open Go Go.RowKit

theorem nm_wp_rows2 {P : Program} {c : Code} {Q : Exit → Act → World → Prop} {a : Act} {w : World} {A B : Array Value} {T U : TypeId}
    (h : ∀ W, Keeps w W → Row W w.heap.size 0 A.toList → Row W (w.heap.size + 1) 0 B.toList → W.heap.size = w.heap.size + 2 → Code.wp P c Q a W) :
    Code.wp P c Q a ((w.alloc (.cells A T)).alloc (.cells B U)) := by
  have h0 := Row.new (w := w) A.toList A T (by simp)
  have h1 := Row.new (w := w.alloc (.cells A T)) B.toList B U (by simp)
  simp only [World.size_alloc] at h1
  exact h _ (nm_keeps_alloc (nm_keeps_alloc (Keeps.refl w) _) _) (h0.alloc _) h1 (by simp)
def nm_zero32 : List Int := List.replicate 32 0
theorem zero32_length : nm_zero32.length = 32 := by simp [nm_zero32]
/-- what expand hands back -/
def expRes (x : Int) : List Int := (expand x).getD nm_zero32
theorem sz_n32 (l : List Int) (h : l.length = 32) : (Tryz.prog.info? 51).map (·.size) = some (l.map (Value.int .u8)).length := by rw [List.length_map, h]; exact sz_number
theorem mB_lit0 (m : Int) : mB m 0 = m / 65536 % 256 := by simp [mB]
theorem mB_lit1 (m : Int) : mB m 1 = m / 256 % 256 := by simp [mB]
theorem mB_lit2 (m : Int) : mB m 2 = m % 256 := by simp [mB]
theorem nm_w32_wraps (n : Int) (h₀ : 0 ≤ n) (h₁ : n < 2 ^ 32) : IntKind.u32.wrap n = n := by rw [IntKind.wrap_u32]; omega
theorem mask24 (x : Int) (h0 : 0 ≤ x) (h1 : x < 4294967296) : bits .and .u32 x 16777215 = x % 16777216 := by
  have := bits_mask .u32 32 (by decide) nm_w32_wraps 24 (by decide) x h0 (by omega)
  simpa using this
set_option maxRecDepth 100000 in
set_option maxHeartbeats 4000000 in
theorem expand_any (x : Int) (h0 : 0 ≤ x) (h1 : x < 4294967296) (w : World) :
    Calls Tryz.prog 45 #[.int .u32 x] w fun e w' => e = .returned (.tuple #[.agg ((expRes x).map (Value.int .u8)).toArray, .bool (expand x).isSome]) ∧ Keeps w w' := by
  have hand := mask24 x h0 h1
  have hER : expRes x = if 8388608 ≤ x % 16777216 then nm_zero32 else if expBad (x / 16777216).toNat (x % 16777216) 3 = true then nm_zero32 else expB (x / 16777216).toNat (x % 16777216) 3 := by
    unfold expRes expand
    split
    · rfl
    · split <;> rfl
  have hES : (expand x).isSome = if 8388608 ≤ x % 16777216 then false else if expBad (x / 16777216).toNat (x % 16777216) 3 = true then false else true := by
    unfold expand
    split
    · rfl
    · split <;> rfl
  obtain ⟨e, he⟩ : ∃ e : Nat, x / 16777216 = e := ⟨(x / 16777216).toNat, by omega⟩
  have he2 : e < 256 := by omega
  obtain ⟨m, hm⟩ : ∃ m, x % 16777216 = m := ⟨_, rfl⟩
  have hm0 : 0 ≤ m := by omega
  have hm1 : m < 16777216 := by omega
  rw [hm] at hand
  rw [he, hm, Int.toNat_natCast] at hER hES
  have hf1 : 8388608 ≤ m → expRes x = nm_zero32 ∧ (expand x).isSome = false := fun h => by rw [hER, hES, if_pos h, if_pos h]; exact ⟨rfl, rfl⟩
  have hf2 : ¬ 8388608 ≤ m → expBad e m 3 = true → expRes x = nm_zero32 ∧ (expand x).isSome = false := fun h hb => by rw [hER, hES, if_neg h, if_neg h, if_pos hb, if_pos hb]; exact ⟨rfl, rfl⟩
  have hf3 : ¬ 8388608 ≤ m → expBad e m 3 = false → expRes x = expB e m 3 ∧ (expand x).isSome = true := fun h hb => by rw [hER, hES, if_neg h, if_neg h, hb]; exact ⟨rfl, rfl⟩
  clear hER hES hm
  generalize expRes x = ER at *
  generalize (expand x).isSome = ES at *
  have HF1 := Lib.hid hf1; have HF2 := Lib.hid hf2; have HF3 := Lib.hid hf3
  clear hf1 hf2 hf3
  go_enter Tryz.func45, Tryz.ntmps45
  go_upto_region 2 with (fail)
  refine nm_wp_rows2 (fun W hk hr2 hr4 hs => ?_)
  obtain ⟨p, hp⟩ : ∃ p, p = w.heap.size := ⟨_, rfl⟩
  rw [← hp] at hr2 hr4 hs ⊢
  have hkp : w.heap.size ≤ p := by omega
  have HR2 := Lib.hid (show Row W p 0 (nm_zero32.map (Value.int .u8)) from hr2); have HR4 := Lib.hid (show Row W (p + 1) 0 ((expB e m 0).map (Value.int .u8)) by rw [expB_zero]; exact hr4); have HK := Lib.hid hk
  clear hs hr2 hr4 hk hp
  go_upto_region 3 with (fail)
  clear hand he
  have hz9 := zero32_length
  by_cases hbig : 8388608 ≤ m
  · have hd : decide ((m : Int) ≥ 8388608) = true := by simpa using hbig
    obtain ⟨hq1, hq2⟩ := HF1.out hbig
    have HQ1 := Lib.hid hq1; have HQ2 := Lib.hid hq2
    clear hq1 hq2
    have HR4' : Hid (Row W (p + 1) 0 (nm_zero32.map (Value.int .u8))) := by have := HR4.out; rw [expB_zero] at this; exact this
    generalize nm_zero32 = Z at *
    go_wp2_with (first | (refine wpList_load_at rfl 51 (.tmp 4) rfl (p + 1) 0 rfl (Z.map (Value.int .u8)) _ HR4'.out Tryz.underlying51 rfl (sz_n32 Z hz9) ?_) | (refine wpList_store_row rfl 51 (.tmp 2) (.tmp 17) rfl p 0 rfl _ (Z.map (Value.int .u8)) rfl HR2.out rfl (sz_n32 Z hz9) (int_oneCell _) ?_; intro w9 hr9 hc9; have H9 := Lib.hid hr9; have HC9 := Lib.hid hc9; clear hr9 hc9))
    exact bodyPost_ret (v := .tuple #[.agg (Z.map (Value.int .u8)).toArray, .bool false]) (results_cell_tmpB (p := 2) (t := 3) (ty := 51) rfl _ _ p 0 _ _ _ rfl rfl H9.out Tryz.underlying51 rfl (sz_n32 Z hz9)) rfl ⟨by rw [HQ1.out, HQ2.out], nm_keeps_chg HK.out HC9.out (by omega)⟩
  · have hd : decide ((m : Int) ≥ 8388608) = false := by simpa using hbig
    have HG2 := Lib.hid (HF2.out hbig); have HG3 := Lib.hid (HF3.out hbig)
    have HBZ := Lib.hid (expBad_zero e m)
    have HBS := Lib.hid (expBad_succ e m)
    have HBM := Lib.hid (fun k k' h hb => expBad_mono e m (k := k) (k' := k') h hb)
    have HXS := Lib.hid (expB_set e m)
    have HXO := Lib.hid (expB_out e m)
    have HXL := Lib.hid (expB_length e m)
    generalize expB e m = X at *
    generalize hBB : expBad e m = BB at *
    clear hBB
    go_wp2
    go_loopw [18] (fun c wr => ∃ i : Nat, i ≤ 3 ∧ c = .int .i64 i ∧ Keeps w wr ∧ Row wr p 0 (nm_zero32.map (Value.int .u8)) ∧ Row wr (p + 1) 0 ((X i).map (Value.int .u8)) ∧ BB i = false) (fun c _ => (3 - intOf c).toNat)
    case atStart => exact ⟨0, by omega, rfl, HK.out, HR2.out, HR4.out, HBZ.out⟩
    case round =>
      obtain ⟨i, hi, rfl, hk, hr2, hr4, hb⟩ := hrel
      by_cases hlt : i < 3
      · have hi3 : i = 0 ∨ i = 1 ∨ i = 2 := by omega
        have hset := HXS.out i
        have hout := HXO.out i
        have hbs := HBS.out i
        have hl9 := HXL.out i
        have hbm := HBM.out (i + 1) 3 (by omega)
        have hv : mB m i = m / 2 ^ (16 - 8 * i) % 256 := by rcases hi3 with rfl | rfl | rfl <;> simp [mB]
        have hvr := mB_byte m i
        rw [hb, Bool.false_or] at hbs
        have HBS2 := Lib.hid hbs; have HSET := Lib.hid hset; have HOUT := Lib.hid hout; have HBM2 := Lib.hid hbm
        clear hbs hset hout hb hbm
        have H2 := Lib.hid hr2; have HK2 := Lib.hid hk
        clear hr2 hk
        by_cases hA : e ≤ 32 + i ∧ i < e
        · obtain ⟨hA1, hA2⟩ := hA
          obtain ⟨q, hq⟩ : ∃ q : Nat, q = 32 + i - e := ⟨_, rfl⟩
          have c4 := hr4.int0 q (by omega)
          have f4 := hr4.free0 q (by rw [List.length_map]; omega)
          have hs4 := hr4.setInt0 q (by omega) (mB m i)
          rw [HSET.out q (by omega) (by omega)] at hs4
          generalize (X i).getD q 0 = old at *
          have hfb : BB (i + 1) = false := by rw [HBS2.out, decide_eq_false (by omega)]; rfl
          have H4 := Lib.hid hs4; have HFB := Lib.hid hfb
          clear hs4 hr4 hfb
          rcases hi3 with rfl | rfl | rfl
          · have hidx : (32 : Int) - (e : Int) = (q : Int) := by omega
            have hv2 : mB m 0 = m / 65536 := by rw [mB_lit0]; omega
            rw [hv2] at H4
            have hq32 : q < 32 := by omega
            clear hv hv2 hq hA1 hA2
            go_wp2
            go_roundw
            case rel => exact ⟨1, by omega, rfl, keeps_set HK2.out (by omega) _, H2.out.other (by simp) _, H4.out, HFB.out⟩
            case measure => simp [intOf]
          · have hidx : (32 : Int) - (e : Int) + 1 = (q : Int) := by omega
            have hv2 : mB m 1 = m / 256 % 256 := mB_lit1 m
            rw [hv2] at H4
            have hq32 : q < 32 := by omega
            clear hv hv2 hq hA1 hA2
            go_wp2
            go_roundw
            case rel => exact ⟨2, by omega, rfl, keeps_set HK2.out (by omega) _, H2.out.other (by simp) _, H4.out, HFB.out⟩
            case measure => simp [intOf]
          · have hidx : (32 : Int) - (e : Int) + 2 = (q : Int) := by omega
            have hv2 : mB m 2 = m % 256 := mB_lit2 m
            rw [hv2] at H4
            have hq32 : q < 32 := by omega
            clear hv hv2 hq hA1 hA2
            go_wp2
            go_roundw
            case rel => exact ⟨3, by omega, rfl, keeps_set HK2.out (by omega) _, H2.out.other (by simp) _, H4.out, HFB.out⟩
            case measure => simp [intOf]
        · have H4 := Lib.hid hr4
          clear hr4
          by_cases hB : 32 + i < e
          · have hx4 := HOUT.out (.inl hB)
            by_cases hC : mB m i = 0
            · have hfb : BB (i + 1) = false := by rw [HBS2.out, hC]; simp
              rw [hx4] at H4
              have HFB := Lib.hid hfb
              clear hfb hx4
              rcases hi3 with rfl | rfl | rfl
              · have hv2 : m / 65536 = 0 := by rw [mB_lit0] at hC; omega
                have he1 : 32 < e := by omega
                clear hv hvr hC hA hB
                go_wp2
                go_roundw
                case rel => exact ⟨1, by omega, rfl, HK2.out, H2.out, H4.out, HFB.out⟩
                case measure => simp [intOf]
              · have hv2 : m / 256 % 256 = 0 := by rw [mB_lit1] at hC; exact hC
                have he1 : 33 < e := by omega
                clear hv hvr hC hA hB
                go_wp2
                go_roundw
                case rel => exact ⟨2, by omega, rfl, HK2.out, H2.out, H4.out, HFB.out⟩
                case measure => simp [intOf]
              · have hv2 : m % 256 = 0 := by rw [mB_lit2] at hC; exact hC
                have he1 : 34 < e := by omega
                clear hv hvr hC hA hB
                go_wp2
                go_roundw
                case rel => exact ⟨3, by omega, rfl, HK2.out, H2.out, H4.out, HFB.out⟩
                case measure => simp [intOf]
            · have hfb : BB 3 = true := HBM2.out (by rw [HBS2.out, decide_eq_true hB]; simpa using hC)
              obtain ⟨hq1, hq2⟩ := HG2.out hfb
              have HQ1 := Lib.hid hq1; have HQ2 := Lib.hid hq2
              clear hq1 hq2 hfb
              rcases hi3 with rfl | rfl | rfl
              · have hv2 : (m / 65536 != 0) = true := by rw [mB_lit0] at hC; simp; omega
                have he1 : 32 < e := by omega
                clear hv hvr hC hA hB
                go_wp2_with (refine wpList_store_row rfl 51 (.tmp 2) (.tmp 46) rfl p 0 rfl _ (nm_zero32.map (Value.int .u8)) rfl H2.out (by simp) (sz_n32 nm_zero32 hz9) (int_oneCell _) ?_; intro w9 hr9 hc9; have H9 := Lib.hid hr9; have HC9 := Lib.hid hc9; clear hr9 hc9)
                exact bodyPost_ret (v := .tuple #[.agg (nm_zero32.map (Value.int .u8)).toArray, .bool false]) (results_cell_tmpB (p := 2) (t := 3) (ty := 51) rfl _ _ p 0 _ _ _ rfl rfl H9.out Tryz.underlying51 rfl (sz_n32 nm_zero32 hz9)) rfl ⟨by rw [HQ1.out, HQ2.out], nm_keeps_chg HK2.out HC9.out (by omega)⟩
              · have hv2 : (m / 256 % 256 != 0) = true := by rw [mB_lit1] at hC; simp; omega
                have he1 : 33 < e := by omega
                clear hv hvr hC hA hB
                go_wp2_with (refine wpList_store_row rfl 51 (.tmp 2) (.tmp 46) rfl p 0 rfl _ (nm_zero32.map (Value.int .u8)) rfl H2.out (by simp) (sz_n32 nm_zero32 hz9) (int_oneCell _) ?_; intro w9 hr9 hc9; have H9 := Lib.hid hr9; have HC9 := Lib.hid hc9; clear hr9 hc9)
                exact bodyPost_ret (v := .tuple #[.agg (nm_zero32.map (Value.int .u8)).toArray, .bool false]) (results_cell_tmpB (p := 2) (t := 3) (ty := 51) rfl _ _ p 0 _ _ _ rfl rfl H9.out Tryz.underlying51 rfl (sz_n32 nm_zero32 hz9)) rfl ⟨by rw [HQ1.out, HQ2.out], nm_keeps_chg HK2.out HC9.out (by omega)⟩
              · have hv2 : (m % 256 != 0) = true := by rw [mB_lit2] at hC; simp; omega
                have he1 : 34 < e := by omega
                clear hv hvr hC hA hB
                go_wp2_with (refine wpList_store_row rfl 51 (.tmp 2) (.tmp 46) rfl p 0 rfl _ (nm_zero32.map (Value.int .u8)) rfl H2.out (by simp) (sz_n32 nm_zero32 hz9) (int_oneCell _) ?_; intro w9 hr9 hc9; have H9 := Lib.hid hr9; have HC9 := Lib.hid hc9; clear hr9 hc9)
                exact bodyPost_ret (v := .tuple #[.agg (nm_zero32.map (Value.int .u8)).toArray, .bool false]) (results_cell_tmpB (p := 2) (t := 3) (ty := 51) rfl _ _ p 0 _ _ _ rfl rfl H9.out Tryz.underlying51 rfl (sz_n32 nm_zero32 hz9)) rfl ⟨by rw [HQ1.out, HQ2.out], nm_keeps_chg HK2.out HC9.out (by omega)⟩
          · have hx4 := HOUT.out (.inr (by omega))
            have hfb : BB (i + 1) = false := by rw [HBS2.out, decide_eq_false hB]; rfl
            rw [hx4] at H4
            have HFB := Lib.hid hfb
            clear hfb hx4
            rcases hi3 with rfl | rfl | rfl
            · have he1 : e = 0 := by omega
              clear hv hvr hA hB
              subst he1
              go_wp2
              go_roundw
              case rel => exact ⟨1, by omega, rfl, HK2.out, H2.out, H4.out, HFB.out⟩
              case measure => simp [intOf]
            · have he1 : e ≤ 1 := by omega
              clear hv hvr hA hB
              go_wp2
              go_roundw
              case rel => exact ⟨2, by omega, rfl, HK2.out, H2.out, H4.out, HFB.out⟩
              case measure => simp [intOf]
            · have he1 : e ≤ 2 := by omega
              clear hv hvr hA hB
              go_wp2
              go_roundw
              case rel => exact ⟨3, by omega, rfl, HK2.out, H2.out, H4.out, HFB.out⟩
              case measure => simp [intOf]
      · obtain rfl : i = 3 := by omega
        have hl9 := HXL.out 3
        obtain ⟨hq1, hq2⟩ := HG3.out hb
        have HQ1 := Lib.hid hq1; have HQ2 := Lib.hid hq2
        clear hq1 hq2
        generalize X 3 = RR at *
        have H2 := Lib.hid hr2; have H4 := Lib.hid hr4; have HK2 := Lib.hid hk; have HB2 := Lib.hid hb
        clear hr2 hr4 hk hb
        go_wp2_with (first | (refine wpList_load_at rfl 51 (.tmp 4) rfl (p + 1) 0 rfl (RR.map (Value.int .u8)) _ H4.out Tryz.underlying51 rfl (sz_n32 RR hl9) ?_) | (refine wpList_store_row rfl 51 (.tmp 2) (.tmp 48) rfl p 0 rfl _ (RR.map (Value.int .u8)) rfl H2.out (by simp [hl9, hz9]) (sz_n32 RR hl9) (int_oneCell _) ?_; intro w9 hr9 hc9; have H9 := Lib.hid hr9; have HC9 := Lib.hid hc9; clear hr9 hc9))
        exact bodyPost_ret (v := .tuple #[.agg (RR.map (Value.int .u8)).toArray, .bool true]) (results_cell_tmpB (p := 2) (t := 3) (ty := 51) rfl _ _ p 0 _ _ _ rfl rfl H9.out Tryz.underlying51 rfl (sz_n32 RR hl9)) rfl ⟨by rw [HQ1.out, HQ2.out], nm_keeps_chg HK2.out HC9.out (by omega)⟩
end Go.Proofs.YtcodpdpeklammaaGreatDoor
