/- bytes.TrimLeft of noughts, block.Bits: a number as bits. | The new coins of a height, in the code and in the reference. -/
import Derived.Test.YtclhjlkgmeofcaaDoorGA8
namespace Go.Proofs.YtclhjlkgmeofcaaDoor
set_option linter.unusedVariables false
set_option linter.unusedSimpArgs false
open Go Go.RowKit

theorem lead_at {l : List Int} {i : Nat} (h : ∀ j, j < i → l.getD j 0 = 0) (hi : i < l.length) (hx : l.getD i 0 ≠ 0) : lead l = i := by
  induction l generalizing i with
  | nil => simp at hi
  | cons a r ih =>
    unfold lead at *
    cases i with
    | zero =>
      have : a ≠ 0 := by simpa using hx
      simp [List.takeWhile_cons, this]
    | succ i =>
      have h0 : a = 0 := by simpa using h 0 (by omega)
      subst h0
      have := ih (i := i) (fun j hj => by simpa using h (j + 1) (by omega)) (by simpa using hi) (by simpa using hx)
      simp [List.takeWhile_cons, this]
theorem lead_all {l : List Int} (h : ∀ j, j < l.length → l.getD j 0 = 0) : lead l = l.length := by
  induction l with
  | nil => rfl
  | cons a r ih =>
    have h0 : a = 0 := by simpa using h 0 (by simp)
    have := ih (fun j hj => by simpa using h (j + 1) (by simpa using hj))
    unfold lead at *
    subst h0
    simp [List.takeWhile_cons, this]
/-- what is left of 32 bytes at the head of a block behind f of them -/
def restV (g f : Nat) : Value := if f < 32 then .slice (some ⟨g, f, none⟩) (32 - f : Nat) (32 - f : Nat) else .slice none 0 0
theorem restV_lt (g f : Nat) (h : f < 32) : restV g f = .slice (some ⟨g, f, none⟩) (32 - f : Nat) (32 - f : Nat) := if_pos h
theorem restV_all (g : Nat) : restV g 32 = .slice none 0 0 := rfl
set_option maxRecDepth 100000 in
set_option maxHeartbeats 1000000 in
theorem trimLeftByte_any (l : List Int) (hl : l.length = 32) (g : Nat) (w : World) (hr : Row w g 0 (l.map (Value.int .u8))) :
    Calls Tryd.prog 107 #[.slice (some ⟨g, 0, none⟩) 32 32, .int .u8 0] w fun e w' => e = .returned (restV g (lead l)) ∧ w = w' := by
  have HLA := Lib.hid (fun i h1 h2 h3 => lead_at (l := l) (i := i) h1 h2 h3)
  have HLZ := Lib.hid (lead_all (l := l))
  have HRL := Lib.hid (restV_lt g)
  have HRZ := Lib.hid (restV_all g)
  generalize restV g = RV at *
  generalize lead l = F at *
  have HR := Lib.hid hr
  clear hr
  go_enter Tryd.func107, Tryd.ntmps107
  go_wp2
  go_loopw [0] (fun s wr => wr = w ∧ ∃ i : Nat, i ≤ 32 ∧ (∀ j, j < i → l.getD j 0 = 0) ∧ ∃ o : Nat, (i < 32 → o = i) ∧ s = .slice (some ⟨g, o, none⟩) ((32 : Int) - i).toNat ((32 : Int) - i).toNat) (fun s _ => slLen s)
  case atStart => exact ⟨rfl, 0, by omega, by omega, 0, by omega, rfl⟩
  case round =>
    obtain ⟨rfl, i, hi, hz, o, ho, rfl⟩ := hrel
    have e32 : ((32 : Int) - i).toNat = 32 - i := by omega
    rw [e32]
    by_cases hlt : i < 32
    · obtain rfl := ho hlt
      have c1 := HR.out.int0 o (by omega)
      have HZ := Lib.hid hz
      clear hz
      by_cases hx : l.getD o 0 = 0
      · rw [hx] at c1
        go_wp2
        refine ⟨⟨trivial, o + 1, by omega, fun j hj => ?_, if 32 - o = 1 then o else o + 1, fun h => if_neg (by omega), ?_⟩, ?_⟩
        · by_cases e : j = o
          · rw [e]; exact hx
          · exact HZ.out j (by omega)
        · have e1 : ((32 : Int) - ((o + 1 : Nat) : Int)).toNat = 32 - o - 1 := by omega
          rw [e1]
          split <;> rfl
        · simp only [slLen]; omega
      · have hF := HLA.out o HZ.out (by omega) hx
        have hd : (l.getD o 0 == 0) = false := by simpa using hx
        subst hF
        have hrv := HRL.out F hlt
        generalize l.getD F 0 = x at *
        have HRV := Lib.hid hrv
        clear hrv
        go_wp2
        go_ret
        exact ⟨by rw [HRV.out]; rfl, rfl⟩
    · obtain rfl : i = 32 := by omega
      have hF := HLZ.out (by rw [hl]; exact hz)
      rw [hl] at hF
      subst hF
      go_wp2
      go_ret
      exact ⟨by rw [HRZ.out]; rfl, rfl⟩
set_option maxRecDepth 100000 in
set_option maxHeartbeats 1000000 in
theorem trimLeft_any (l : List Int) (hl : l.length = 32) (g : Nat) (w : World) (hr : Row w g 0 (l.map (Value.int .u8))) :
    Calls Tryd.prog 63 #[.slice (some ⟨g, 0, none⟩) 32 32, .string ⟨#[0]⟩] w fun e w' => e = .returned (restV g (lead l)) ∧ w = w' := by
  have H := Lib.hid (trimLeftByte_any l hl g w hr)
  clear hr
  generalize restV g (lead l) = RV at *
  go_enter Tryd.func63, Tryd.ntmps63
  go_wp2_with (go_at_call 107; refine H.out.mono ?_; rintro e W5 ⟨rfl, rfl⟩)
  go_ret
  exact ⟨rfl, rfl⟩
theorem w32_join (i : Nat) (x y : Int) (hx₀ : 0 ≤ x) (hx : x % 2 ^ i = 0) (hx₁ : x < 2 ^ 32) (hy₀ : 0 ≤ y) (hy : y < 2 ^ i) (hy₁ : y < 2 ^ 32) : bits .or .u32 x y = x + y :=
  bits_join .u32 32 (by decide) nm_w32_wraps i x y hx₀ hx hx₁ hy₀ hy hy₁
set_option maxRecDepth 100000 in
set_option maxHeartbeats 1000000 in
theorem bits_any (l : List Int) (hb : Bytes l) (hl : l.length = 32) (w : World) :
    Calls Tryd.prog 24 #[.agg (l.map (Value.int .u8)).toArray] w fun e w' => e = .returned (.int .u32 (bitsOf l)) ∧ Keeps w w' := by
  have hf := lead_le l
  rw [hl] at hf
  have HT := Lib.hid (trimLeft_any l hl)
  have HBV := Lib.hid (show bitsOf l = bitsOf' l (lead l) from rfl)
  have hm0 : mant l (lead l) 0 = 0 := rfl
  have hm1 : ∀ k, mant l (lead l) (k + 1) = mant l (lead l) k * 256 + l.getD (lead l + k) 0 := fun _ => rfl
  have hmr : ∀ k, k ≤ 2 → 0 ≤ mant l (lead l) k ∧ mant l (lead l) k < 65536 := by
    intro k hk
    have h0 := hb.get (lead l); have h1 := hb.get (lead l + 1)
    have : k = 0 ∨ k = 1 ∨ k = 2 := by omega
    rcases this with rfl | rfl | rfl <;> simp only [mant, Nat.add_zero] at * <;> omega
  have hg0 : ∀ j, 32 ≤ j → l.getD j 0 = 0 := fun j hj => by rw [List.getD, List.getElem?_eq_none (by omega)]; rfl
  have hgr : ∀ j, 0 ≤ l.getD j 0 ∧ l.getD j 0 < 256 := fun j => hb.get j
  have hbo : bitsOf' l (lead l) = if 8388608 ≤ mant l (lead l) 3 then (33 - (lead l : Int)) * 16777216 + mant l (lead l) 3 / 256 else (32 - (lead l : Int)) * 16777216 + mant l (lead l) 3 := rfl
  have hm3 := mant_range hb (lead l)
  have HRL := Lib.hid (fun p f h => restV_lt p f h)
  have HRZ := Lib.hid (fun p => restV_all p)
  generalize mant l (lead l) = M at *
  generalize bitsOf' l (lead l) = BO at *
  generalize lead l = F at *
  have HM0 := Lib.hid hm0; have HM1 := Lib.hid hm1; have HMR := Lib.hid hmr; have HG0 := Lib.hid hg0; have HGR := Lib.hid hgr; have HBO := Lib.hid hbo; have HM3 := Lib.hid hm3
  clear hm0 hm1 hmr hg0 hgr hbo hm3
  go_enter Tryd.func24, Tryd.ntmps24
  go_upto_region 1 with (fail)
  refine nm_wp_rows1 (fun W hk hr hs => ?_)
  obtain ⟨p, hp⟩ : ∃ p, p = w.heap.size := ⟨_, rfl⟩
  rw [← hp] at hr hs ⊢
  have HR := Lib.hid (show Row W p 0 (l.map (Value.int .u8)) from hr); have HK := Lib.hid hk
  clear hp hr hs hk
  have HTL := Lib.hid (HT.out p W HR.out)
  go_upto_region 2 with (go_at_call 63; refine HTL.out.mono ?_; rintro e W5 ⟨rfl, rfl⟩)
  by_cases hF : F < 32
  · rw [HRL.out p F hF]
    go_wp2
    go_loopw [5, 11] (fun m c wr => wr = W ∧ ∃ i : Nat, i ≤ 3 ∧ c = .int .i64 i ∧ m = .int .u32 (M i)) (fun _ c _ => (3 - intOf c).toNat)
    case atStart => exact ⟨rfl, 0, by omega, rfl, by rw [HM0.out]⟩
    case round =>
      obtain ⟨rfl, i, hi, rfl, rfl⟩ := hrel
      by_cases hlt : i < 3
      · obtain ⟨m0, m1⟩ := HMR.out i (by omega)
        have hmm := HM1.out i
        by_cases hin : F + i < 32
        · have c1 := HR.out.int0 (F + i) (by omega)
          obtain ⟨g0, g1⟩ := HGR.out (F + i)
          generalize l.getD (F + i) 0 = x at *
          generalize M i = m at *
          have hj := w32_join 8 (m * 256) x (by omega) (by omega) (by omega) g0 (by omega) (by omega)
          have hw : IntKind.u32.wrap (m * 256) = m * 256 := nm_w32_wraps _ (by omega) (by omega)
          have HMM := Lib.hid hmm
          clear hmm
          go_wp2
          exact ⟨⟨trivial, i + 1, by omega, by simp, by rw [HMM.out]⟩, by simp [intOf]; omega⟩
        · have hx := HG0.out (F + i) (by omega)
          rw [hx, Int.add_zero] at hmm
          generalize M i = m at *
          have hw : IntKind.u32.wrap (m * 256) = m * 256 := nm_w32_wraps _ (by omega) (by omega)
          have HMM := Lib.hid hmm
          clear hmm
          go_wp2
          exact ⟨⟨trivial, i + 1, by omega, by simp, by rw [HMM.out]⟩, by simp [intOf]; omega⟩
      · obtain rfl : i = 3 := by omega
        obtain ⟨m0, m1⟩ := HM3.out
        generalize M 3 = m at *
        by_cases hbig : 8388608 ≤ m
        · have hbo : BO = (33 - (F : Int)) * 16777216 + m / 256 := by rw [HBO.out, if_pos hbig]
          have hd : decide (m ≥ 8388608) = true := by simpa using hbig
          have hj := w32_join 24 ((33 - (F : Int)) * 16777216) (m / 256) (by omega) (by omega) (by omega) (by omega) (by omega) (by omega)
          have hw : IntKind.u32.wrap ((33 - (F : Int)) * 16777216) = (33 - (F : Int)) * 16777216 := nm_w32_wraps _ (by omega) (by omega)
          have HBO2 := Lib.hid hbo
          clear hbo
          go_wp2
          go_ret
          exact ⟨ret_int (by rw [show ((32 - F : Nat) : Int) + 1 = 33 - (F : Int) by omega]; exact hj.trans (HBO2.out.symm.trans HBV.out.symm)), HK.out⟩
        · have hbo : BO = (32 - (F : Int)) * 16777216 + m := by rw [HBO.out, if_neg hbig]
          have hd : decide (m ≥ 8388608) = false := by simpa using hbig
          have hj := w32_join 24 ((32 - (F : Int)) * 16777216) m (by omega) (by omega) (by omega) (by omega) (by omega) (by omega)
          have hw : IntKind.u32.wrap ((32 - (F : Int)) * 16777216) = (32 - (F : Int)) * 16777216 := nm_w32_wraps _ (by omega) (by omega)
          have HBO2 := Lib.hid hbo
          clear hbo
          go_wp2
          go_ret
          exact ⟨ret_int (by rw [show ((32 - F : Nat) : Int) = 32 - (F : Int) by omega]; exact hj.trans (HBO2.out.symm.trans HBV.out.symm)), HK.out⟩
  · obtain rfl : F = 32 := by omega
    rw [HRZ.out p]
    have hm3 : M 3 = 0 := by
      have h1 : M 1 = M 0 * 256 + l.getD (32 + 0) 0 := HM1.out 0; have h2 : M 2 = M 1 * 256 + l.getD (32 + 1) 0 := HM1.out 1; have h3 : M 3 = M 2 * 256 + l.getD (32 + 2) 0 := HM1.out 2
      have g1 := HG0.out (32 + 0) (by omega); have g2 := HG0.out (32 + 1) (by omega); have g3 := HG0.out (32 + 2) (by omega)
      rw [HM0.out] at h1
      omega
    have hbo : bitsOf l = 0 := by rw [HBV.out, HBO.out, hm3]; rfl
    go_wp2
    go_loopw [5, 11] (fun m c wr => wr = W ∧ ∃ i : Nat, i ≤ 3 ∧ c = .int .i64 i ∧ m = .int .u32 0) (fun _ c _ => (3 - intOf c).toNat)
    case atStart => exact ⟨rfl, 0, by omega, rfl, rfl⟩
    case round =>
      obtain ⟨rfl, i, hi, rfl, rfl⟩ := hrel
      by_cases hlt : i < 3
      · go_wp2
        exact ⟨⟨trivial, i + 1, by omega, by simp, rfl⟩, by simp [intOf]; omega⟩
      · obtain rfl : i = 3 := by omega
        have HBO2 := Lib.hid hbo
        clear hbo
        go_wp2
        go_ret
        exact ⟨ret_int HBO2.out.symm, HK.out⟩
end Go.Proofs.YtclhjlkgmeofcaaDoor
namespace Go.Proofs.YtclhjlkgmeofcaaDoor
set_option linter.unusedVariables false
set_option linter.unusedSimpArgs false
open Go Go.RowKit

set_option maxRecDepth 100000 in
set_option maxHeartbeats 1000000 in
theorem subsidy_any (h : Int) (h0 : -9223372036854775808 ≤ h) (h1 : h < 9223372036854775808) (w : World) :
    Calls Tryd.prog 25 #[.int .i64 h] w fun e w' => e = .returned (.int .i64 (subsidy h)) ∧ w = w' := by
  have hs1 : h < 0 → subsidy h = 0 := fun hh => if_pos hh
  have hs2 := subsidy_late h
  have hs3 : ¬ h < 0 → subsidy h = 5000000000 / 2 ^ (h / 150).toNat := fun hh => if_neg hh
  generalize subsidy h = S at *
  have HS1 := Lib.hid hs1; have HS2 := Lib.hid hs2; have HS3 := Lib.hid hs3
  clear hs1 hs2 hs3
  by_cases hn : h < 0
  · have hS := HS1.out hn
    have HS := Lib.hid hS
    clear hS
    go_enter Tryd.func25, Tryd.ntmps25
    go_wp2
    go_ret
    exact ⟨ret_int HS.out.symm, rfl⟩
  · obtain ⟨k, hk⟩ : ∃ k : Nat, h / 150 = k := ⟨(h / 150).toNat, by omega⟩
    have ht : h.tdiv 150 = k := by rw [Int.tdiv_eq_ediv_of_nonneg (by omega), hk]
    have h150 : h = 150 * k + h % 150 := by omega
    by_cases hb : 64 ≤ k
    · have hS := HS2.out (by omega)
      have HS := Lib.hid hS
      have hkb : (k : Int) < 9223372036854775808 := by omega
      have hkl : (64 : Int) ≤ k := by omega
      generalize (k : Int) = z at *
      clear hS h150 hk hb
      go_enter Tryd.func25, Tryd.ntmps25
      go_wp2
      go_ret
      exact ⟨ret_int HS.out.symm, rfl⟩
    · have hS := HS3.out hn
      rw [hk, Int.toNat_natCast] at hS
      have HS := Lib.hid hS
      clear hS hk h150
      go_enter Tryd.func25, Tryd.ntmps25
      go_wp2
      go_ret
      exact ⟨ret_int HS.out.symm, rfl⟩
end Go.Proofs.YtclhjlkgmeofcaaDoor
