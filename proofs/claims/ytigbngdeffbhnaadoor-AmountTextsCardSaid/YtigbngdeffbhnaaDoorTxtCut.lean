/- Texts: a string's bytes, strings.Cut at a point, digits. -/
import Derived.Test.YtigbngdeffbhnaaDoorTxtSpec
import Derived.Deep.Cut
import Derived.WalkSpells
namespace Go.Proofs.YtigbngdeffbhnaaDoor
set_option linter.unusedVariables false
set_option linter.unusedSimpArgs false
open Go Go.RowKit

/-- a string's byte -/
def bAt (s : ByteArray) (j : Nat) : Int := ((s.data.toList.getD j 0).toNat : Int)
theorem bAt_range (s : ByteArray) (j : Nat) : 0 ≤ bAt s j ∧ bAt s j < 256 := by
  have := (s.data.toList.getD j 0).toNat_lt
  unfold bAt
  omega
theorem run_index_string (W : World) (s : ByteArray) (j : Nat) (hj : j < s.size) : (Instr.index 9 (.string s) (.int .i64 (j : Int))).run Tryd.prog W = .ok (.int .u8 (bAt s j)) W := by
  have h1 : (0 : Int) ≤ (j : Int) ∧ (j : Int) < (s.size : Int) := by omega
  simp [Instr.index, run_underlying Tryd.underlying9, go_sem, asIntOf, h1, bAt]
  have h2 : s[j]? = some s[j] := getElem?_pos s j hj
  have h3 : s.data[j]? = some s[j] := by
    have : j < s.data.size := hj
    rw [getElem?_pos s.data j this]; rfl
  rw [h2, h3]
  rfl
theorem ba_size (l : List UInt8) : (⟨l.toArray⟩ : ByteArray).size = l.length := by simp [ByteArray.size]
theorem ba_append (a b : List UInt8) : ((⟨a.toArray⟩ : ByteArray) ++ ⟨b.toArray⟩) = ⟨(a ++ b).toArray⟩ := by
  apply ByteArray.ext
  simp
theorem size_list (s : ByteArray) : s.size = s.data.toList.length := rfl
theorem ba_take (s : ByteArray) (n : Nat) (h : n ≤ s.size) : s.extract 0 n = ⟨(s.data.toList.take n).toArray⟩ := by
  apply ByteArray.ext
  apply Array.toList_inj.1
  rw [ByteArray.data_extract, Array.toList_extract, List.extract_eq_take_drop, Nat.sub_zero, List.drop_zero]
theorem ba_drop (s : ByteArray) (n : Nat) : s.extract n s.size = ⟨(s.data.toList.drop n).toArray⟩ := by
  apply ByteArray.ext
  apply Array.toList_inj.1
  rw [ByteArray.data_extract, Array.toList_extract, List.extract_eq_take_drop, size_list, List.take_of_length_le (by rw [List.length_drop]; exact Nat.le_refl _)]
/-- where the first point stands -/
theorem index_point (L : List UInt8) : Lib.indexByte L 46 = if tailL L = [] then -1 else ((coinsL L).length : Int) := by
  induction L with
  | nil => rfl
  | cons c l ih =>
    unfold Lib.indexByte
    by_cases h : c = 46
    · subst h
      simp [tailL, coinsL]
    · have e1 : tailL (c :: l) = tailL l := by unfold tailL; rw [List.dropWhile_cons, if_pos (by simpa using h)]
      have e2 : coinsL (c :: l) = c :: coinsL l := by unfold coinsL; rw [List.takeWhile_cons, if_pos (by simpa using h)]
      rw [ih, e1, e2]
      have hb : (c == 46) = false := by simpa using h
      rw [hb]
      by_cases ht : tailL l = []
      · rw [if_pos ht]; simp [ht]
      · rw [if_neg ht, if_neg ht]
        have hn : (((coinsL l).length : Int) == -1) = false := by simp
        rw [hn]
        simp
theorem take_coins (L : List UInt8) : L.take (coinsL L).length = coinsL L := by
  have h := coins_tail L
  generalize coinsL L = c at *
  generalize tailL L = t at *
  subst h
  simp
theorem drop_coins (L : List UInt8) : L.drop ((coinsL L).length + 1) = (tailL L).tail := by
  have h := coins_tail L
  generalize coinsL L = c at *
  generalize tailL L = t at *
  subst h
  cases t <;> simp
theorem coins_le (L : List UInt8) (h : tailL L ≠ []) : (coinsL L).length + 1 ≤ L.length := by
  have h2 := congrArg List.length (coins_tail L)
  rw [List.length_append] at h2
  have : 0 < (tailL L).length := List.length_pos_iff.2 h
  omega
def cutR (s : ByteArray) : Value := .tuple #[.string ⟨(coinsL s.data.toList).toArray⟩, .string ⟨(tailL s.data.toList).tail.toArray⟩, .bool (decide (tailL s.data.toList ≠ []))]
set_option maxRecDepth 100000 in
set_option maxHeartbeats 1000000 in
theorem lcut_any (s : ByteArray) (hmax : s.size ≤ 281474976710656) (w : World) :
    Calls Tryd.prog 22 #[.string s, .string ⟨#[46]⟩] w fun e w' => e = .returned (cutR s) ∧ Keeps w w' := by
  have hix := Tryd.stringslite_Index_one s 46
  rw [index_point] at hix
  have HIX := Lib.hid hix
  clear hix
  have hz := size_list s
  by_cases ht : tailL s.data.toList = []
  · have hix : ∀ W, Calls Tryd.prog 35 #[.string s, .string ⟨#[46]⟩] W fun e w' => e = .returned (.int .i64 (-1)) ∧ w' = W := fun W => by
      have := HIX.out W; rwa [if_pos ht] at this
    have hc : coinsL s.data.toList = s.data.toList := by have := coins_tail s.data.toList; rw [ht, List.append_nil] at this; exact this
    have HC := Lib.hid (show cutR s = .tuple #[.string s, .string ⟨#[]⟩, .bool false] by unfold cutR; rw [hc, ht]; simp)
    clear hc
    go_enter Tryd.func22, Tryd.ntmps22
    go_wp2_with (go_at_call 35; refine (hix _).mono ?_; rintro e w' ⟨rfl, rfl⟩)
    go_ret3
    exact ⟨by rw [HC.out]; rfl, Keeps.refl _⟩
  · have hix : ∀ W, Calls Tryd.prog 35 #[.string s, .string ⟨#[46]⟩] W fun e w' => e = .returned (.int .i64 ((coinsL s.data.toList).length : Int)) ∧ w' = W := fun W => by
      have := HIX.out W; rwa [if_neg ht] at this
    have hle := coins_le _ ht
    rw [← hz] at hle
    have h1 := ba_take s (coinsL s.data.toList).length (by omega)
    have h2 := ba_drop s ((coinsL s.data.toList).length + 1)
    rw [take_coins] at h1
    rw [drop_coins] at h2
    have HC := Lib.hid (show cutR s = .tuple #[.string (s.extract 0 (coinsL s.data.toList).length), .string (s.extract ((coinsL s.data.toList).length + 1) s.size), .bool true] by unfold cutR; rw [h1, h2]; simp [ht])
    clear h1 h2 HIX ht hz
    generalize (coinsL s.data.toList).length = p at *
    go_enter Tryd.func22, Tryd.ntmps22
    go_wp2_with (go_at_call 35; refine (hix _).mono ?_; rintro e w' ⟨rfl, rfl⟩)
    go_region
    go_wp2
    go_ret3
    exact ⟨by rw [HC.out]; rfl, Below.drew (Keeps.refl _)⟩
theorem cut_any (s : ByteArray) (hmax : s.size ≤ 281474976710656) (w : World) :
    Calls Tryd.prog 13 #[.string s, .string ⟨#[46]⟩] w fun e w' => e = .returned (cutR s) ∧ Keeps w w' := by
  have h := lcut_any s hmax
  unfold cutR at h ⊢
  generalize (coinsL s.data.toList).toArray = A at *
  generalize (tailL s.data.toList).tail.toArray = B at *
  generalize decide (tailL s.data.toList ≠ []) = C at *
  have H := Lib.hid h
  clear h
  go_enter Tryd.func13, Tryd.ntmps13
  go_wp2_with (go_at_call 22; refine (H.out _).mono ?_; rintro e w' ⟨rfl, hk⟩)
  go_ret3
  exact ⟨rfl, hk⟩
/-- so many digits, and nothing else -/
def digB (l : List UInt8) (a b : Int) : Bool := l.all isD && (decide (a ≤ (l.length : Int)) && decide ((l.length : Int) ≤ b))
theorem take_all_snoc (l : List UInt8) (i : Nat) (h : i < l.length) : (l.take (i + 1)).all isD = ((l.take i).all isD && isD (l.getD i 0)) := by
  rw [List.take_succ_eq_append_getElem h, List.all_append]
  simp [List.getD, h]
theorem all_false_of (l : List UInt8) (i : Nat) (h : i < l.length) (hd : isD (l.getD i 0) = false) : l.all isD = false := by
  rw [List.all_eq_false]
  refine ⟨l.getD i 0, ?_, by rw [hd]; exact Bool.false_ne_true⟩
  simp [List.getD, h]
theorem isD_bAt (s : ByteArray) (i : Nat) : isD (s.data.toList.getD i 0) = (decide (48 ≤ bAt s i) && decide (bAt s i ≤ 57)) := by
  unfold isD bAt
  generalize s.data.toList.getD i 0 = c
  congr 1 <;> (rw [decide_eq_decide]; omega)
set_option maxRecDepth 100000 in
set_option maxHeartbeats 1000000 in
theorem digits_any (s : ByteArray) (hmax : s.size ≤ 281474976710656) (a b : Int) (w : World) :
    Calls Tryd.prog 14 #[.string s, .int .i64 a, .int .i64 b] w fun e w' => e = .returned (.bool (digB s.data.toList a b)) ∧ w = w' := by
  have hz := size_list s
  have hno : ∀ i, i < s.size → isD (s.data.toList.getD i 0) = false → digB s.data.toList a b = false := fun i hi hd => by
    unfold digB; rw [all_false_of _ i (by omega) hd]; rfl
  have hyes : s.data.toList.all isD = true → digB s.data.toList a b = (decide (a ≤ (s.size : Int)) && decide ((s.size : Int) ≤ b)) := fun h => by
    unfold digB; rw [h, hz]; rfl
  have hstep := take_all_snoc s.data.toList
  have htk : s.data.toList.take s.size = s.data.toList := by rw [hz, List.take_length]
  rw [← hz] at hstep
  have hD := isD_bAt s
  generalize digB s.data.toList a b = R at *
  generalize s.data.toList = L at *
  have HNO := Lib.hid hno; have HYES := Lib.hid hyes; have HST := Lib.hid hstep; have HTK := Lib.hid htk; have HD := Lib.hid hD
  clear hno hyes hstep htk hD hz
  go_enter Tryd.func14, Tryd.ntmps14
  go_wp2
  go_loopw [10] (fun c wr => ∃ i : Nat, i ≤ s.size ∧ c = .int .i64 i ∧ (L.take i).all isD = true ∧ w = wr) (fun c _ => (s.size - intOf c).toNat)
  case atStart => exact ⟨0, by omega, rfl, by simp, rfl⟩
  case round =>
    obtain ⟨i, hi, rfl, hall, rfl⟩ := hrel
    have HA := Lib.hid hall
    clear hall
    by_cases hlt : i < s.size
    · have hx := fun W => run_index_string W s i hlt
      have hd := HD.out i
      have hno := HNO.out i hlt
      have hst := HST.out i hlt
      rw [HA.out, Bool.true_and] at hst
      have hr := bAt_range s i
      generalize bAt s i = c at *
      generalize isD (L.getD i 0) = dg at *
      by_cases h1 : c < 48
      · have hf : dg = false := by rw [hd, decide_eq_false (by omega)]; rfl
        have HR := Lib.hid (hno hf)
        clear hd hst hno hf
        go_wp2
        go_ret
        exact ⟨by rw [HR.out]; rfl, rfl⟩
      · by_cases h2 : c > 57
        · have hf : dg = false := by rw [hd, decide_eq_false (p := c ≤ 57) (by omega), Bool.and_false]
          have HR := Lib.hid (hno hf)
          clear hd hst hno hf
          go_wp2
          go_ret
          exact ⟨by rw [HR.out]; rfl, rfl⟩
        · have hf : dg = true := by rw [hd, decide_eq_true (by omega), decide_eq_true (by omega)]; rfl
          rw [hf] at hst
          have HS2 := Lib.hid hst
          clear hd hst hno hf
          go_wp2
          go_roundw
          case rel => exact ⟨i + 1, by omega, by go_num, HS2.out, trivial⟩
          case measure => simp [intOf]; omega
    · obtain rfl : i = s.size := by omega
      have hall := HA.out
      rw [HTK.out] at hall
      have hy := HYES.out hall
      have HY := Lib.hid hy
      clear hall hy
      by_cases h1 : a ≤ (s.size : Int)
      · go_wp2
        go_ret
        exact ⟨by rw [HY.out, decide_eq_true h1, Bool.true_and]; rfl, rfl⟩
      · go_wp2
        go_ret
        exact ⟨by rw [HY.out, decide_eq_false (by omega), Bool.false_and]; rfl, rfl⟩
end Go.Proofs.YtigbngdeffbhnaaDoor
