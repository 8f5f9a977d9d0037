/- bytes.TrimLeft of noughts, block.Bits: a number as bits. | The new coins of a height, in the code and in the reference. | strongboxlaw10.awake: it says yes. | The references' Spare and Kept, at bytes: a copy of one's own with nine bytes behind it, and whether it is still as it was. -/
import Derived.Test.YtcodpdpeklammaaDoorGD4
import Derived.Test.YtcodpdpeklammaaDoorGD5
import Derived.Test.YtcodpdpeklammaaDoorGA2
namespace Go.Proofs.YtcodpdpeklammaaDoor
set_option linter.unusedVariables false
set_option linter.unusedSimpArgs false
open Go Go.RowKit

theorem lead_at {l : List Int} {i : Nat} (h : ∀ j, j < i → l.getD j 0 = 0) (hi : i < l.length) (hx : l.getD i 0 ≠ 0) : lead l = i := by
  induction l generalizing i with
  | nil => simp at hi
  | cons a r ih =>
    unfold lead at *
    cases i with
    | zero =>
      have : a ≠ 0 := by simpa using hx
      simp [List.takeWhile_cons, this]
    | succ i =>
      have h0 : a = 0 := by simpa using h 0 (by omega)
      subst h0
      have := ih (i := i) (fun j hj => by simpa using h (j + 1) (by omega)) (by simpa using hi) (by simpa using hx)
      simp [List.takeWhile_cons, this]
theorem lead_all {l : List Int} (h : ∀ j, j < l.length → l.getD j 0 = 0) : lead l = l.length := by
  induction l with
  | nil => rfl
  | cons a r ih =>
    have h0 : a = 0 := by simpa using h 0 (by simp)
    have := ih (fun j hj => by simpa using h (j + 1) (by simpa using hj))
    unfold lead at *
    subst h0
    simp [List.takeWhile_cons, this]
/-- what is left of 32 bytes at the head of a block behind f of them -/
def restV (g f : Nat) : Value := if f < 32 then .slice (some ⟨g, f, none⟩) (32 - f : Nat) (32 - f : Nat) else .slice none 0 0
theorem restV_lt (g f : Nat) (h : f < 32) : restV g f = .slice (some ⟨g, f, none⟩) (32 - f : Nat) (32 - f : Nat) := if_pos h
theorem restV_all (g : Nat) : restV g 32 = .slice none 0 0 := rfl
set_option maxRecDepth 100000 in
set_option maxHeartbeats 1000000 in
theorem trimLeftByte_any (l : List Int) (hl : l.length = 32) (g : Nat) (w : World) (hr : Row w g 0 (l.map (Value.int .u8))) :
    Calls Tryd.prog 53 #[.slice (some ⟨g, 0, none⟩) 32 32, .int .u8 0] w fun e w' => e = .returned (restV g (lead l)) ∧ w = w' := by
  have HLA := Lib.hid (fun i h1 h2 h3 => lead_at (l := l) (i := i) h1 h2 h3)
  have HLZ := Lib.hid (lead_all (l := l))
  have HRL := Lib.hid (restV_lt g)
  have HRZ := Lib.hid (restV_all g)
  generalize restV g = RV at *
  generalize lead l = F at *
  have HR := Lib.hid hr
  clear hr
  go_enter Tryd.func53, Tryd.ntmps53
  go_wp2
  go_loopw [0] (fun s wr => wr = w ∧ ∃ i : Nat, i ≤ 32 ∧ (∀ j, j < i → l.getD j 0 = 0) ∧ ∃ o : Nat, (i < 32 → o = i) ∧ s = .slice (some ⟨g, o, none⟩) ((32 : Int) - i).toNat ((32 : Int) - i).toNat) (fun s _ => slLen s)
  case atStart => exact ⟨rfl, 0, by omega, by omega, 0, by omega, rfl⟩
  case round =>
    obtain ⟨rfl, i, hi, hz, o, ho, rfl⟩ := hrel
    have e32 : ((32 : Int) - i).toNat = 32 - i := by omega
    rw [e32]
    by_cases hlt : i < 32
    · obtain rfl := ho hlt
      have c1 := HR.out.int0 o (by omega)
      have HZ := Lib.hid hz
      clear hz
      by_cases hx : l.getD o 0 = 0
      · rw [hx] at c1
        go_wp2
        refine ⟨⟨trivial, o + 1, by omega, fun j hj => ?_, if 32 - o = 1 then o else o + 1, fun h => if_neg (by omega), ?_⟩, ?_⟩
        · by_cases e : j = o
          · rw [e]; exact hx
          · exact HZ.out j (by omega)
        · have e1 : ((32 : Int) - ((o + 1 : Nat) : Int)).toNat = 32 - o - 1 := by omega
          rw [e1]
          split <;> rfl
        · simp only [slLen]; omega
      · have hF := HLA.out o HZ.out (by omega) hx
        have hd : (l.getD o 0 == 0) = false := by simpa using hx
        subst hF
        have hrv := HRL.out F hlt
        generalize l.getD F 0 = x at *
        have HRV := Lib.hid hrv
        clear hrv
        go_wp2
        go_ret
        exact ⟨by rw [HRV.out]; rfl, rfl⟩
    · obtain rfl : i = 32 := by omega
      have hF := HLZ.out (by rw [hl]; exact hz)
      rw [hl] at hF
      subst hF
      go_wp2
      go_ret
      exact ⟨by rw [HRZ.out]; rfl, rfl⟩
set_option maxRecDepth 100000 in
set_option maxHeartbeats 1000000 in
theorem trimLeft_any (l : List Int) (hl : l.length = 32) (g : Nat) (w : World) (hr : Row w g 0 (l.map (Value.int .u8))) :
    Calls Tryd.prog 31 #[.slice (some ⟨g, 0, none⟩) 32 32, .string ⟨#[0]⟩] w fun e w' => e = .returned (restV g (lead l)) ∧ w = w' := by
  have H := Lib.hid (trimLeftByte_any l hl g w hr)
  clear hr
  generalize restV g (lead l) = RV at *
  go_enter Tryd.func31, Tryd.ntmps31
  go_wp2_with (go_at_call 53; refine H.out.mono ?_; rintro e W5 ⟨rfl, rfl⟩)
  go_ret
  exact ⟨rfl, rfl⟩
theorem w32_join (i : Nat) (x y : Int) (hx₀ : 0 ≤ x) (hx : x % 2 ^ i = 0) (hx₁ : x < 2 ^ 32) (hy₀ : 0 ≤ y) (hy : y < 2 ^ i) (hy₁ : y < 2 ^ 32) : bits .or .u32 x y = x + y :=
  bits_join .u32 32 (by decide) nm_w32_wraps i x y hx₀ hx hx₁ hy₀ hy hy₁
set_option maxRecDepth 100000 in
set_option maxHeartbeats 1000000 in
theorem bits_any (l : List Int) (hb : Bytes l) (hl : l.length = 32) (w : World) :
    Calls Tryd.prog 13 #[.agg (l.map (Value.int .u8)).toArray] w fun e w' => e = .returned (.int .u32 (bitsOf l)) ∧ Keeps w w' := by
  have hf := lead_le l
  rw [hl] at hf
  have HT := Lib.hid (trimLeft_any l hl)
  have HBV := Lib.hid (show bitsOf l = bitsOf' l (lead l) from rfl)
  have hm0 : mant l (lead l) 0 = 0 := rfl
  have hm1 : ∀ k, mant l (lead l) (k + 1) = mant l (lead l) k * 256 + l.getD (lead l + k) 0 := fun _ => rfl
  have hmr : ∀ k, k ≤ 2 → 0 ≤ mant l (lead l) k ∧ mant l (lead l) k < 65536 := by
    intro k hk
    have h0 := hb.get (lead l); have h1 := hb.get (lead l + 1)
    have : k = 0 ∨ k = 1 ∨ k = 2 := by omega
    rcases this with rfl | rfl | rfl <;> simp only [mant, Nat.add_zero] at * <;> omega
  have hg0 : ∀ j, 32 ≤ j → l.getD j 0 = 0 := fun j hj => by rw [List.getD, List.getElem?_eq_none (by omega)]; rfl
  have hgr : ∀ j, 0 ≤ l.getD j 0 ∧ l.getD j 0 < 256 := fun j => hb.get j
  have hbo : bitsOf' l (lead l) = if 8388608 ≤ mant l (lead l) 3 then (33 - (lead l : Int)) * 16777216 + mant l (lead l) 3 / 256 else (32 - (lead l : Int)) * 16777216 + mant l (lead l) 3 := rfl
  have hm3 := mant_range hb (lead l)
  have HRL := Lib.hid (fun p f h => restV_lt p f h)
  have HRZ := Lib.hid (fun p => restV_all p)
  generalize mant l (lead l) = M at *
  generalize bitsOf' l (lead l) = BO at *
  generalize lead l = F at *
  have HM0 := Lib.hid hm0; have HM1 := Lib.hid hm1; have HMR := Lib.hid hmr; have HG0 := Lib.hid hg0; have HGR := Lib.hid hgr; have HBO := Lib.hid hbo; have HM3 := Lib.hid hm3
  clear hm0 hm1 hmr hg0 hgr hbo hm3
  go_enter Tryd.func13, Tryd.ntmps13
  go_upto_region 1 with (fail)
  refine nm_wp_rows1 (fun W hk hr hs => ?_)
  obtain ⟨p, hp⟩ : ∃ p, p = w.heap.size := ⟨_, rfl⟩
  rw [← hp] at hr hs ⊢
  have HR := Lib.hid (show Row W p 0 (l.map (Value.int .u8)) from hr); have HK := Lib.hid hk
  clear hp hr hs hk
  have HTL := Lib.hid (HT.out p W HR.out)
  go_upto_region 2 with (go_at_call 31; refine HTL.out.mono ?_; rintro e W5 ⟨rfl, rfl⟩)
  by_cases hF : F < 32
  · rw [HRL.out p F hF]
    go_wp2
    go_loopw [5, 11] (fun m c wr => wr = W ∧ ∃ i : Nat, i ≤ 3 ∧ c = .int .i64 i ∧ m = .int .u32 (M i)) (fun _ c _ => (3 - intOf c).toNat)
    case atStart => exact ⟨rfl, 0, by omega, rfl, by rw [HM0.out]⟩
    case round =>
      obtain ⟨rfl, i, hi, rfl, rfl⟩ := hrel
      by_cases hlt : i < 3
      · obtain ⟨m0, m1⟩ := HMR.out i (by omega)
        have hmm := HM1.out i
        by_cases hin : F + i < 32
        · have c1 := HR.out.int0 (F + i) (by omega)
          obtain ⟨g0, g1⟩ := HGR.out (F + i)
          generalize l.getD (F + i) 0 = x at *
          generalize M i = m at *
          have hj := w32_join 8 (m * 256) x (by omega) (by omega) (by omega) g0 (by omega) (by omega)
          have hw : IntKind.u32.wrap (m * 256) = m * 256 := nm_w32_wraps _ (by omega) (by omega)
          have HMM := Lib.hid hmm
          clear hmm
          go_wp2
          exact ⟨⟨trivial, i + 1, by omega, by simp, by rw [HMM.out]⟩, by simp [intOf]; omega⟩
        · have hx := HG0.out (F + i) (by omega)
          rw [hx, Int.add_zero] at hmm
          generalize M i = m at *
          have hw : IntKind.u32.wrap (m * 256) = m * 256 := nm_w32_wraps _ (by omega) (by omega)
          have HMM := Lib.hid hmm
          clear hmm
          go_wp2
          exact ⟨⟨trivial, i + 1, by omega, by simp, by rw [HMM.out]⟩, by simp [intOf]; omega⟩
      · obtain rfl : i = 3 := by omega
        obtain ⟨m0, m1⟩ := HM3.out
        generalize M 3 = m at *
        by_cases hbig : 8388608 ≤ m
        · have hbo : BO = (33 - (F : Int)) * 16777216 + m / 256 := by rw [HBO.out, if_pos hbig]
          have hd : decide (m ≥ 8388608) = true := by simpa using hbig
          have hj := w32_join 24 ((33 - (F : Int)) * 16777216) (m / 256) (by omega) (by omega) (by omega) (by omega) (by omega) (by omega)
          have hw : IntKind.u32.wrap ((33 - (F : Int)) * 16777216) = (33 - (F : Int)) * 16777216 := nm_w32_wraps _ (by omega) (by omega)
          have HBO2 := Lib.hid hbo
          clear hbo
          go_wp2
          go_ret
          exact ⟨ret_int (by rw [show ((32 - F : Nat) : Int) + 1 = 33 - (F : Int) by omega]; exact hj.trans (HBO2.out.symm.trans HBV.out.symm)), HK.out⟩
        · have hbo : BO = (32 - (F : Int)) * 16777216 + m := by rw [HBO.out, if_neg hbig]
          have hd : decide (m ≥ 8388608) = false := by simpa using hbig
          have hj := w32_join 24 ((32 - (F : Int)) * 16777216) m (by omega) (by omega) (by omega) (by omega) (by omega) (by omega)
          have hw : IntKind.u32.wrap ((32 - (F : Int)) * 16777216) = (32 - (F : Int)) * 16777216 := nm_w32_wraps _ (by omega) (by omega)
          have HBO2 := Lib.hid hbo
          clear hbo
          go_wp2
          go_ret
          exact ⟨ret_int (by rw [show ((32 - F : Nat) : Int) = 32 - (F : Int) by omega]; exact hj.trans (HBO2.out.symm.trans HBV.out.symm)), HK.out⟩
  · obtain rfl : F = 32 := by omega
    rw [HRZ.out p]
    have hm3 : M 3 = 0 := by
      have h1 : M 1 = M 0 * 256 + l.getD (32 + 0) 0 := HM1.out 0; have h2 : M 2 = M 1 * 256 + l.getD (32 + 1) 0 := HM1.out 1; have h3 : M 3 = M 2 * 256 + l.getD (32 + 2) 0 := HM1.out 2
      have g1 := HG0.out (32 + 0) (by omega); have g2 := HG0.out (32 + 1) (by omega); have g3 := HG0.out (32 + 2) (by omega)
      rw [HM0.out] at h1
      omega
    have hbo : bitsOf l = 0 := by rw [HBV.out, HBO.out, hm3]; rfl
    go_wp2
    go_loopw [5, 11] (fun m c wr => wr = W ∧ ∃ i : Nat, i ≤ 3 ∧ c = .int .i64 i ∧ m = .int .u32 0) (fun _ c _ => (3 - intOf c).toNat)
    case atStart => exact ⟨rfl, 0, by omega, rfl, rfl⟩
    case round =>
      obtain ⟨rfl, i, hi, rfl, rfl⟩ := hrel
      by_cases hlt : i < 3
      · go_wp2
        exact ⟨⟨trivial, i + 1, by omega, by simp, rfl⟩, by simp [intOf]; omega⟩
      · obtain rfl : i = 3 := by omega
        have HBO2 := Lib.hid hbo
        clear hbo
        go_wp2
        go_ret
        exact ⟨ret_int HBO2.out.symm, HK.out⟩
end Go.Proofs.YtcodpdpeklammaaDoor
namespace Go.Proofs.YtcodpdpeklammaaDoor
set_option linter.unusedVariables false
set_option linter.unusedSimpArgs false
open Go Go.RowKit

set_option maxRecDepth 100000 in
set_option maxHeartbeats 1000000 in
theorem subsidy_any (h : Int) (h0 : -9223372036854775808 ≤ h) (h1 : h < 9223372036854775808) (w : World) :
    Calls Tryd.prog 14 #[.int .i64 h] w fun e w' => e = .returned (.int .i64 (subsidy h)) ∧ w = w' := by
  have hs1 : h < 0 → subsidy h = 0 := fun hh => if_pos hh
  have hs2 := subsidy_late h
  have hs3 : ¬ h < 0 → subsidy h = 5000000000 / 2 ^ (h / 150).toNat := fun hh => if_neg hh
  generalize subsidy h = S at *
  have HS1 := Lib.hid hs1; have HS2 := Lib.hid hs2; have HS3 := Lib.hid hs3
  clear hs1 hs2 hs3
  by_cases hn : h < 0
  · have hS := HS1.out hn
    have HS := Lib.hid hS
    clear hS
    go_enter Tryd.func14, Tryd.ntmps14
    go_wp2
    go_ret
    exact ⟨ret_int HS.out.symm, rfl⟩
  · obtain ⟨k, hk⟩ : ∃ k : Nat, h / 150 = k := ⟨(h / 150).toNat, by omega⟩
    have ht : h.tdiv 150 = k := by rw [Int.tdiv_eq_ediv_of_nonneg (by omega), hk]
    have h150 : h = 150 * k + h % 150 := by omega
    by_cases hb : 64 ≤ k
    · have hS := HS2.out (by omega)
      have HS := Lib.hid hS
      have hkb : (k : Int) < 9223372036854775808 := by omega
      have hkl : (64 : Int) ≤ k := by omega
      generalize (k : Int) = z at *
      clear hS h150 hk hb
      go_enter Tryd.func14, Tryd.ntmps14
      go_wp2
      go_ret
      exact ⟨ret_int HS.out.symm, rfl⟩
    · have hS := HS3.out hn
      rw [hk, Int.toNat_natCast] at hS
      have HS := Lib.hid hS
      clear hS hk h150
      go_enter Tryd.func14, Tryd.ntmps14
      go_wp2
      go_ret
      exact ⟨ret_int HS.out.symm, rfl⟩
end Go.Proofs.YtcodpdpeklammaaDoor
namespace Go.Proofs.YtcodpdpeklammaaDoor
set_option linter.unusedVariables false
set_option linter.unusedSimpArgs false
open Go Go.RowKit

/-- a guarded load of a whole array -/
theorem nm_wpList_load_on {P : Program} {ops : Array Oper} {rest : List Oper} {o : Oper} {a : Act} {w : World} {Q : Exit → Act → World → Prop} (hw : Region.wanted o (yielded ops a.tmps) = true) (ty : TypeId) (x : Operand) (ho : o.op = .load ty x)
    (g off : Nat) (hx : a.eval x = .pointer (some ⟨g, off, none⟩)) (cs : List Value) (d : TypeDesc) (hg : Row w g off cs)
    (hu : P.underlying ty = some d) (hd : (match d with | .struct _ | .array _ _ => true | _ => false) = true) (hi : (P.info? ty).map (·.size) = some cs.length)
    (h : wpList P ops Q rest (a.put o.dst (.agg cs.toArray)) w) : wpList P ops Q (o :: rest) a w :=
  BigFrame.wpList_want hw fun _ hK => by
    unfold Oper.wp execOp
    simp only [ho, hx, Instr.loadAt, Instr.sureAddr, Sem.run_bind, Sem.run_pure, Result.andThen_ok, run_loadVar_at w g off ty cs d hg hu hd hi]
    exact hK _ _ h
/-- a guarded build of a value of noughts -/
theorem wpList_zero_on {P : Program} {ops : Array Oper} {rest : List Oper} {o : Oper} {a : Act} {w : World} {Q : Exit → Act → World → Prop} (hw : Region.wanted o (yielded ops a.tmps) = true) (ty : TypeId) (ho : o.op = .build ty #[])
    (z : Value) (hz : (execOp a.eval o).run P w = .ok (.value z) w)
    (h : wpList P ops Q rest (a.put o.dst z) w) : wpList P ops Q (o :: rest) a w :=
  BigFrame.wpList_want hw fun _ hK => by
    unfold Oper.wp
    rw [hz]
    exact hK _ _ h
def awkB : List Int := [0, 0, 0, 0, 255, 255, 0, 0, 0, 0, 0, 0, 0, 0, 0, 0, 0, 0, 0, 0, 0, 0, 0, 0, 0, 0, 0, 0, 0, 0, 0, 0]
theorem awk_target : tgtRes 486604799 = awkB := by decide +kernel
theorem awk_err : tgtErr 486604799 = 0 := by decide +kernel
theorem awk_bits : bitsOf awkB = 486604799 := by decide +kernel
theorem awk_coins : subsidy 300 = 1250000000 := by decide +kernel
theorem awk_bytes : Bytes awkB := by unfold Bytes Byte; decide +kernel
def head0 : List Value := headCells 0 (List.replicate 32 0) (List.replicate 32 0) 0 0 0
set_option maxRecDepth 100000 in
set_option maxHeartbeats 2000000 in
theorem awake_any (w : World) : Calls Tryd.prog 4 #[] w fun e w' => e = .returned (.bool true) ∧ Keeps w w' := by
  have hT : ∀ W, Calls Tryd.prog 12 #[.int .u32 486604799] W fun e w' => e = .returned (.tuple #[.agg (awkB.map (Value.int .u8)).toArray, .int .i64 0]) ∧ Keeps W w' := fun W => by
    have := target_any 486604799 (by decide) (by decide) W
    rwa [awk_target, awk_err] at this
  have hB : ∀ W, Calls Tryd.prog 13 #[.agg (awkB.map (Value.int .u8)).toArray] W fun e w' => e = .returned (.int .u32 486604799) ∧ Keeps W w' := fun W => by
    have := bits_any awkB awk_bytes rfl W
    rwa [awk_bits] at this
  have hS : ∀ W, Calls Tryd.prog 14 #[.int .i64 300] W fun e w' => e = .returned (.int .i64 1250000000) ∧ W = w' := fun W => by
    have := subsidy_any 300 (by decide) (by decide) W
    rwa [awk_coins] at this
  have hH : ∀ W, Calls Tryd.prog 15 #[.agg head0.toArray] W fun e w' => ∃ a c, e = .returned (.slice a 80 c) ∧ Keeps W w' := fun W => by
    refine (encodeHeader_any 0 (List.replicate 32 0) (List.replicate 32 0) 0 0 0 (by decide) (by decide) (by unfold nm_U32; decide) (by unfold nm_U32; decide) (by unfold nm_U32; decide) W).mono ?_
    rintro e w' ⟨v, rfl, hO⟩
    obtain ⟨a, c, rfl⟩ := hO.any
    exact ⟨a, c, rfl, hO.keeps⟩
  have hl9 : awkB.length = 32 := rfl
  have b4 : awkB.getD 4 0 = 255 := rfl
  have b6 : awkB.getD 6 0 = 0 := rfl
  have HT := Lib.hid hT; have HB := Lib.hid hB; have HS := Lib.hid hS; have HH := Lib.hid hH; have B4 := Lib.hid b4; have B6 := Lib.hid b6
  clear hT hB hS hH b4 b6
  generalize awkB = L at *
  go_enter Tryd.func4, Tryd.ntmps4
  go_upto_region 2 with (first | (go_at_call 12; refine (HT.out _).mono ?_; rintro e W2 ⟨rfl, hk2⟩; have HK2 := Lib.hid hk2; clear hk2) | (refine wpList_store_row rfl 45 (.tmp 1) (.tmp 5) rfl _ 0 rfl (List.replicate 32 (Value.int .u8 0)) (L.map (Value.int .u8)) rfl (Row.new _ _ _ rfl) (by simp [hl9]) (sz_n32 L hl9) (int_oneCell _) ?_; intro W3 hr3 hc3; have HR3 := Lib.hid hr3; have HC3 := Lib.hid hc3; clear hr3 hc3))
  have hk3 : Keeps w W3 := nm_keeps_chg (nm_keeps_alloc HK2.out _) HC3.out HK2.out.size
  have HK3 := Lib.hid hk3
  generalize W2.heap.size = p at *
  have c4 := HR3.out.int0 4 (by omega)
  have c6 := HR3.out.int0 6 (by omega)
  rw [B4.out] at c4
  rw [B6.out] at c6
  clear hk3 HK2 HC3
  have HZ0 : ∀ (W : World) (a : Act) (o : Oper), o.op = .build 30 #[] → (execOp a.eval o).run Tryd.prog W = .ok (.value (.agg head0.toArray)) W := fun W a o ho => by
    unfold execOp; rw [ho]; kernel_rfl
  generalize head0 = H0 at *
  have HZ := Lib.hid HZ0
  clear HZ0
  go_wp2_with (first | (refine nm_wpList_load_on (by kernel_rfl) 45 (.tmp 1) rfl p 0 rfl (L.map (Value.int .u8)) _ HR3.out Tryd.underlying45 rfl (sz_n32 L hl9) ?_) | (refine wpList_zero_on (by kernel_rfl) 30 rfl _ (HZ.out _ _ _ rfl) ?_) | (go_at_call 13; refine (HB.out _).mono ?_; rintro e W4 ⟨rfl, hk4⟩; have HK4 := Lib.hid hk4; clear hk4) | (go_at_call 14; refine (HS.out _).mono ?_; rintro e W5 ⟨rfl, rfl⟩) | (go_at_call 15; refine (HH.out _).mono ?_; rintro e W6 ⟨a6, c6', rfl, hk6⟩; have HK6 := Lib.hid hk6; clear hk6))
  go_ret
  exact ⟨rfl, (HK3.out.trans HK4.out).trans HK6.out⟩
end Go.Proofs.YtcodpdpeklammaaDoor
namespace Go.Proofs.YtcodpdpeklammaaDoor
set_option linter.unusedVariables false
set_option linter.unusedSimpArgs false
open Go Go.RowKit

/-- the first i of a list, then noughts, N in all -/
def sp_upto0 (l : List Int) (N i : Nat) : List Int := l.take i ++ List.replicate (N - i) 0
theorem sp_upto0_zero (l : List Int) (N : Nat) : sp_upto0 l N 0 = List.replicate N 0 := by simp [sp_upto0]
theorem sp_upto0_full (l : List Int) (N : Nat) (h : l.length = N) : sp_upto0 l N N = l := by simp [sp_upto0, ← h]
theorem sp_upto0_length (l : List Int) (N i : Nat) (h : l.length = N) (hi : i ≤ N) : (sp_upto0 l N i).length = N := by simp [sp_upto0, h]; omega
theorem sp_upto0_set (l : List Int) (N i : Nat) (h : l.length = N) (hi : i < N) : (sp_upto0 l N i).set i (l.getD i 0) = sp_upto0 l N (i + 1) := by
  have hl : i < l.length := by omega
  unfold sp_upto0
  have e : i - (l.take i).length = 0 := by simp; omega
  rw [List.set_append_right _ _ (by simp; omega), e, show N - i = (N - (i + 1)) + 1 by omega, List.replicate_succ, List.set_cons_zero, List.take_succ_eq_append_getElem hl, List.append_assoc]
  simp [List.getD, hl]
/-- the nine bytes behind n -/
def spareT (n : Nat) : List Int := (List.range 9).map fun k => (201 + ((n + k : Nat) : Int)) % 256
def spareL (zs : List Int) (n : Nat) : List Int := zs ++ spareT n
theorem spareL_length (zs : List Int) (n : Nat) (h : zs.length = n) : (spareL zs n).length = n + 9 := by simp [spareL, spareT, h]
theorem spareL_lo (zs : List Int) (n i : Nat) (h : zs.length = n) (hi : i < n) : (spareL zs n).getD i 0 = zs.getD i 0 := by
  simp [spareL, List.getD, List.getElem?_append_left, h, hi]
theorem spareL_hi (zs : List Int) (n i : Nat) (h : zs.length = n) (hi : n ≤ i) (h9 : i < n + 9) : (spareL zs n).getD i 0 = (201 + (i : Int)) % 256 := by
  have e : n + (i - n) = i := by omega
  simp only [spareL, List.getD]
  rw [List.getElem?_append_right (by omega), h]
  simp [spareT, show i - n < 9 by omega, e]
  omega
theorem sp_rd_form {W : World} {v : Value} {n : Nat} {xs : List Value} (h : Rd W 1 v n xs) : ∃ a cap, v = .slice a n cap ∧ n ≤ cap ∧ cap ≤ maxLen ∧ (0 < n → ∃ g off, a = some ⟨g, off, none⟩ ∧ Row W g off xs) := by
  obtain ⟨_, a, cap, rfl, h2, h3, h4, h5⟩ := h
  refine ⟨a, cap, rfl, h2, h3, fun hn => ?_⟩
  cases a with
  | none => have := (h4 rfl).1; omega
  | some ad =>
    obtain ⟨g, off, rfl, _, hr⟩ := h5 ad rfl hn
    exact ⟨g, off, rfl, hr⟩
set_option maxRecDepth 100000 in
theorem spare_any (v : Value) (n : Nat) (zs : List Int) (w : World) (hr : Rd w 1 v n (zs.map (Value.int .u8))) (hn : n ≤ 35184372088832) :
    Calls Tryd.prog 5 #[v] w fun e w' => e = .returned (.tuple #[.slice (some ⟨w.heap.size, 0, none⟩) n (n + 9), .slice (some ⟨w.heap.size, 0, none⟩) (n + 9) (n + 9)]) ∧ Keeps w w' ∧ w.heap.size < w'.heap.size ∧ Row w' w.heap.size 0 ((spareL zs n).map (Value.int .u8)) := by
  have hzl : zs.length = n := by have := hr.1; simpa using this
  obtain ⟨i0, hi, hz0, hz1, hz2⟩ := info_parts u8_info
  obtain ⟨a, cap, rfl, hc1, hc2, hrow⟩ := sp_rd_form hr
  have hlen := spareL_length zs n hzl
  have hlo := spareL_lo zs n
  have hhi := spareL_hi zs n
  have hRB : ∀ g off, a = some ⟨g, off, none⟩ → 0 < n → g < w.heap.size := by
    intro g off e h0
    obtain ⟨_, a', cap', e1, _, _, _, h5⟩ := hr
    cases e1
    obtain ⟨g', off', e2, hg, _⟩ := h5 _ e h0
    cases e2; exact hg
  have HRW := Lib.hid hrow; have HLO := Lib.hid hlo; have HHI := Lib.hid hhi; have HZL := Lib.hid hzl; have HLEN := Lib.hid hlen
  clear hr hrow hlo hhi hzl hlen
  generalize spareL zs n = L at *
  go_enter Tryd.func5, Tryd.ntmps5
  go_wp2_with (refine wpList_make_row rfl 22 (.tmp 8) (.tmp 8) rfl 5 i0 (.int .u8 0) 1 Tryd.underlying22 hi hz0 hz1 hz2 rfl .i64 .i64 _ (n + 9) rfl rfl (by omega) (by omega) (by unfold maxLen; omega) ?_; intro w1 hr hk hsz; have HR := Lib.hid hr; clear hr)
  obtain ⟨q, hq⟩ : ∃ q, q = w.heap.size := ⟨_, rfl⟩
  rw [← hq] at HR hsz ⊢
  have HQ := Lib.hid hq
  clear hq
  go_loopw [5] (fun c wr => ∃ i : Nat, i ≤ n + 9 ∧ c = .int .i64 i ∧ Keeps w wr ∧ q < wr.heap.size ∧ Row wr q 0 ((sp_upto0 L (n + 9) i).map (Value.int .u8))) (fun c _ => (n + 9 - intOf c).toNat)
  case atStart => exact ⟨0, by omega, rfl, hk, hsz, by rw [sp_upto0_zero]; simpa using HR.out⟩
  case round =>
    obtain ⟨i, hi9, rfl, hk2, hsz2, hrt⟩ := hrel
    by_cases hlt : i < n + 9
    · have hce := hrt.int0 i (by rw [sp_upto0_length _ _ _ HLEN.out hi9]; omega)
      have hfr := hrt.free0 i (by rw [List.length_map, sp_upto0_length _ _ _ HLEN.out hi9]; omega)
      have hset : ∀ x, x = L.getD i 0 → Row (wr.setCell ⟨q, i, none⟩ (.int .u8 x)) q 0 ((sp_upto0 L (n + 9) (i + 1)).map (Value.int .u8)) := by
        intro x hx; subst hx
        have := hrt.setInt0 i (by rw [sp_upto0_length _ _ _ HLEN.out hi9]; omega) (L.getD i 0)
        rwa [sp_upto0_set _ _ _ HLEN.out hlt] at this
      by_cases hin : i < n
      · obtain ⟨g, off, rfl, hrw⟩ := HRW.out (by omega)
        have hcz := (hrw.keeps hk2).int i (by rw [HZL.out]; exact hin)
        have hgq : g ≠ q := by have := hRB g off rfl (by omega); have := HQ.out; omega
        have hset2 : ∀ y, Row ((wr.setCell ⟨q, i, none⟩ (.int .u8 y)).setCell ⟨q, i, none⟩ (.int .u8 (zs.getD i 0))) q 0 ((sp_upto0 L (n + 9) (i + 1)).map (Value.int .u8)) := by
          intro y
          have h1 := hrt.setInt0 i (by rw [sp_upto0_length _ _ _ HLEN.out hi9]; omega) y
          have h2 := h1.setInt0 i (by rw [List.length_set, sp_upto0_length _ _ _ HLEN.out hi9]; omega) (zs.getD i 0)
          rw [List.set_set, ← HLO.out i HZL.out hin, sp_upto0_set _ _ _ HLEN.out hlt] at h2
          rw [HLO.out i HZL.out hin] at h2
          exact h2
        have HS2 := Lib.hid hset2; have HK2 := Lib.hid hk2
        clear hset hset2 hrt hk2 hrw
        generalize zs.getD i 0 = z at *
        go_wp2
        go_roundw
        case rel => exact ⟨i + 1, by omega, by go_num, Below.setCell (p := ⟨q, i, none⟩) (Below.setCell (p := ⟨q, i, none⟩) HK2.out (show w.heap.size ≤ q by have := HQ.out; omega) _) (show w.heap.size ≤ q by have := HQ.out; omega) _, by simpa using hsz2, HS2.out _⟩
        case measure => simp [intOf]; omega
      · have HST := Lib.hid (fun x (hx : x = (201 + (i : Int)) % 256) => hset x (by rw [HHI.out i HZL.out (by omega) hlt]; exact hx)); have HK2 := Lib.hid hk2
        clear hset hrt hk2
        go_wp2
        go_roundw
        case rel => exact ⟨i + 1, by omega, by go_num, Below.setCell (p := ⟨q, i, none⟩) HK2.out (show w.heap.size ≤ q by have := HQ.out; omega) _, by simpa using hsz2, HST.out _ (by omega)⟩
        case measure => simp [intOf]; omega
    · obtain rfl : i = n + 9 := by omega
      rw [sp_upto0_full _ _ HLEN.out] at hrt
      have HRT := Lib.hid hrt; have HK2 := Lib.hid hk2
      clear hrt hk2
      go_wp2
      go_ret2
      have hq := HQ.out
      subst hq
      exact ⟨rfl, HK2.out, hsz2, HRT.out⟩
set_option maxRecDepth 100000 in
set_option maxHeartbeats 1000000 in
theorem kept_any (v : Value) (n q cap : Nat) (zs : List Int) (w : World) (hr : Rd w 1 v n (zs.map (Value.int .u8))) (hn : n ≤ 35184372088832) (hq : Row w q 0 ((spareL zs n).map (Value.int .u8))) :
    Calls Tryd.prog 9 #[.slice (some ⟨q, 0, none⟩) (n + 9) cap, v] w fun e w' => e = .returned (.bool true) ∧ Qt w w' := by
  have hzl : zs.length = n := by have := hr.1; simpa using this
  obtain ⟨a, cp, rfl, hc1, hc2, hrow⟩ := sp_rd_form hr
  have hlen := spareL_length zs n hzl
  have hlo := spareL_lo zs n
  have hhi := spareL_hi zs n
  have HRW := Lib.hid hrow; have HLO := Lib.hid hlo; have HHI := Lib.hid hhi; have HZL := Lib.hid hzl; have HLEN := Lib.hid hlen; have HQ := Lib.hid hq
  clear hr hrow hlo hhi hzl hlen hq
  generalize spareL zs n = L at *
  go_enter Tryd.func9, Tryd.ntmps9
  go_wp2
  go_loopw [5] (fun c wr => ∃ i : Nat, i ≤ n + 9 ∧ c = .int .i64 i ∧ Qt w wr) (fun c _ => (n + 9 - intOf c).toNat)
  case atStart => exact ⟨0, by omega, rfl, Qt.refl _⟩
  case round =>
    obtain ⟨i, hi9, rfl, m, rfl⟩ := hrel
    by_cases hlt : i < n + 9
    · have hce := HQ.out.int0 i (by rw [HLEN.out]; exact hlt)
      by_cases hin : i < n
      · obtain ⟨g, off, rfl, hrw⟩ := HRW.out (by omega)
        have hcz := hrw.int i (by rw [HZL.out]; exact hin)
        rw [HLO.out i HZL.out hin] at hce
        clear hrw
        generalize zs.getD i 0 = z at *
        have hd1 : decide ((i : Int) < n) = true := by simp; omega
        have hd2 : decide ((n : Int) ≤ i) = false := by simp; omega
        have hd4 : decide (n ≤ i) = false := by simp; omega
        have hd5 : decide (i < n) = true := by simp; omega
        have hd3 : (z != z) = false := by simp
        go_wp2
        go_quiet (fail)
        go_wp2
        go_roundw
        case rel => exact ⟨i + 1, by omega, by go_num, (by repeat (first | exact Qt.refl _ | exact Qt.drewN _ _ | refine Qt.trans ?_ (Qt.drewN _ _)))⟩
        case measure => simp [intOf]; omega
      · rw [HHI.out i HZL.out (by omega) hlt] at hce
        have hd1 : decide ((i : Int) < n) = false := by simp; omega
        have hd2 : decide ((n : Int) ≤ i) = true := by simp; omega
        have hd4 : decide (n ≤ i) = true := by simp; omega
        have hd5 : decide (i < n) = false := by simp; omega
        have hd3 : ((201 + (i : Int)) % 256 != (201 + (i : Int)) % 256) = false := by simp
        go_wp2
        go_quiet (fail)
        go_wp2
        go_roundw
        case rel => exact ⟨i + 1, by omega, by go_num, (by repeat (first | exact Qt.refl _ | exact Qt.drewN _ _ | refine Qt.trans ?_ (Qt.drewN _ _)))⟩
        case measure => simp [intOf]; omega
    · obtain rfl : i = n + 9 := by omega
      go_wp2
      go_ret
      exact ⟨rfl, Qt.drewN _ _⟩
end Go.Proofs.YtcodpdpeklammaaDoor
