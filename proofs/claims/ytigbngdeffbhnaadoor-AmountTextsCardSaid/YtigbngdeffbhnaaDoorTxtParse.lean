/- amount.Parse: what is read of any text. -/
import Derived.Test.YtigbngdeffbhnaaDoorTxtCut
import Derived.Lib.SmallJoins
namespace Go.Proofs.YtigbngdeffbhnaaDoor
set_option linter.unusedVariables false
set_option linter.unusedSimpArgs false
open Go Go.RowKit

theorem parseUint_digits (l : List UInt8) : ∀ acc, l.all isD = true → numF acc l < 100000000000000000 → Lib.parseUintM (2 ^ 64 - 1) acc l = .ok (numF acc l) := by
  induction l with
  | nil => intro acc _ _; rfl
  | cons c l ih =>
    intro acc h hlt
    rw [List.all_cons, Bool.and_eq_true] at h
    have hc := isD_iff.1 h.1
    rw [numF_cons] at hlt ⊢
    have hm := numF_mono l (acc * 10 + dv c)
    unfold Lib.parseUintM
    have hd : dv c = c.toNat - 48 := rfl
    rw [if_pos hc, if_neg (by omega), if_neg (by rw [← hd]; omega), ← hd]
    exact ih _ h.2 hlt
theorem parseInt_digits (l : List UInt8) (hne : l ≠ []) (h : l.all isD = true) (hlt : numF 0 l < 100000000000000000) : Lib.parseIntB 64 l = .ok (numF 0 l : Int) := by
  cases l with
  | nil => exact absurd rfl hne
  | cons c l =>
    have h' := h
    rw [List.all_cons, Bool.and_eq_true] at h'
    have hc := isD_iff.1 h'.1
    unfold Lib.parseIntB
    have e1 : ¬ (c.toNat = 43 ∨ c.toNat = 45) := by omega
    have e2 : ¬ c.toNat = 45 := by omega
    have e3 : Lib.parseUintB 64 (c :: l) = .ok (numF 0 (c :: l)) := by
      unfold Lib.parseUintB
      rw [if_neg (by simp)]
      exact parseUint_digits _ _ h hlt
    dsimp only
    rw [if_neg e1, e3]
    simp only [e2, false_and, not_false_eq_true, true_and, if_false]
    show (if 2 ^ (64 - 1) ≤ numF 0 (c :: l) then Lib.NumEnd.range else Lib.NumEnd.ok ((numF 0 (c :: l) : Nat) : Int)) = _
    rw [if_neg (by omega)]
theorem repeat_zeros : ∀ n, Lib.repeatL [48] n = List.replicate n 48
  | 0 => rfl
  | n + 1 => by rw [Lib.repeatL, repeat_zeros n, List.replicate_succ]; rfl
theorem all_zeros (n : Nat) : (List.replicate n (48 : UInt8)).all isD = true := by
  rw [List.all_eq_true]
  intro x hx
  rw [(List.mem_replicate.1 hx).2]
  decide
theorem repeat_any (m : Nat) (w : World) (h : m ≤ 8) : Calls Tryd.prog 16 #[.string ⟨#[48]⟩, .int .i64 (m : Int)] w fun e w' => e = .returned (.string ⟨(List.replicate m 48).toArray⟩) ∧ Keeps w w' := by
  refine (Tryd.strings_Repeat ⟨#[48]⟩ m w (by omega) (by rw [show (⟨#[48]⟩ : ByteArray).size = 1 from rfl]; omega)).mono ?_
  rintro e w' ⟨rfl, hk⟩
  exact ⟨by rw [← repeat_zeros], hk⟩
theorem pint_any (l : List UInt8) (hne : l ≠ []) (h : l.all isD = true) (hlt : numF 0 l < 100000000000000000) (hl : l.length ≤ 100) (w : World) :
    Calls Tryd.prog 15 #[.string ⟨l.toArray⟩, .int .i64 10, .int .i64 64] w fun e w' => e = .returned (.tuple #[.int .i64 (numF 0 l : Int), .nilIface]) ∧ Keeps w w' := by
  refine (Tryd.strconv_ParseInt_10_at64_ok ⟨l.toArray⟩ (by rw [ba_size]; omega) (numF 0 l : Int) (parseInt_digits l hne h hlt) w).mono ?_
  rintro e w' ⟨rfl, rfl | ⟨t, rfl⟩⟩
  · exact ⟨rfl, Keeps.refl _⟩
  · exact ⟨rfl, Go.Joins.below_bytesWorld _ _ _ _ (Nat.le_refl _)⟩
theorem bAt_ba (l : List UInt8) (j : Nat) : bAt ⟨l.toArray⟩ j = ((l.getD j 0).toNat : Int) := rfl
set_option maxRecDepth 100000 in
set_option maxHeartbeats 4000000 in
/-- the walk, over letters -/
theorem parse_form (s C R : ByteArray) (pt d1 d2 : Bool) (c0 : Int) (hcut : ∀ w, Calls Tryd.prog 13 #[.string s, .string ⟨#[46]⟩] w fun e w' => e = .returned (.tuple #[.string C, .string R, .bool pt]) ∧ Keeps w w')
    (hd1 : ∀ w, Calls Tryd.prog 14 #[.string C, .int .i64 1, .int .i64 (s.size : Int)] w fun e w' => e = .returned (.bool d1) ∧ w = w')
    (hd2 : ∀ w, Calls Tryd.prog 14 #[.string R, .int .i64 1, .int .i64 8] w fun e w' => e = .returned (.bool d2) ∧ w = w')
    (hc : d1 = true → 0 < C.size) (hx : d1 = true → ∀ W, (Instr.index 9 (.string C) (.int .i64 0)).run Tryd.prog W = .ok (.int .u8 c0) W)
    (hbad : d1 = false ∨ d1 = true ∧ c0 = 48 ∧ 1 < C.size ∨ d1 = true ∧ ¬ (c0 = 48 ∧ 1 < C.size) ∧ pt = true ∧ d2 = false) (w : World) :
    Calls Tryd.prog 6 #[.string s] w fun e w' => e = .returned (.tuple #[.int .i64 0, .int .i64 3]) ∧ Keeps w w' := by
  have HC := Lib.hid hcut; have H1 := Lib.hid hd1; have H2 := Lib.hid hd2
  clear hcut hd1 hd2
  rcases hbad with rfl | ⟨rfl, rfl, h3⟩ | ⟨rfl, h3, rfl, rfl⟩
  · clear hc hx
    go_enter Tryd.func6, Tryd.ntmps6
    go_wp2_with (first | (go_at_call 13; refine (HC.out _).mono ?_; rintro e W1 ⟨rfl, hk1⟩; have HK1 := Lib.hid hk1; clear hk1) | (go_at_call 14; first | (with_reducible refine (H1.out _).mono ?_; rintro e W2 ⟨rfl, rfl⟩) | (refine (H2.out _).mono ?_; rintro e W2 ⟨rfl, rfl⟩)))
    go_ret2
    exact ⟨rfl, HK1.out⟩
  · have hx := hx rfl
    clear hc
    go_enter Tryd.func6, Tryd.ntmps6
    go_wp2_with (first | (go_at_call 13; refine (HC.out _).mono ?_; rintro e W1 ⟨rfl, hk1⟩; have HK1 := Lib.hid hk1; clear hk1) | (go_at_call 14; first | (with_reducible refine (H1.out _).mono ?_; rintro e W2 ⟨rfl, rfl⟩) | (refine (H2.out _).mono ?_; rintro e W2 ⟨rfl, rfl⟩)))
    go_ret2
    exact ⟨rfl, HK1.out⟩
  · have hx := hx rfl
    clear hc
    by_cases h4 : c0 = 48
    · subst h4
      have h5 : ¬ 1 < C.size := fun h => h3 ⟨rfl, h⟩
      clear h3
      go_enter Tryd.func6, Tryd.ntmps6
      go_wp2_with (first | (go_at_call 13; refine (HC.out _).mono ?_; rintro e W1 ⟨rfl, hk1⟩; have HK1 := Lib.hid hk1; clear hk1) | (go_at_call 14; first | (with_reducible refine (H1.out _).mono ?_; rintro e W2 ⟨rfl, rfl⟩) | (refine (H2.out _).mono ?_; rintro e W2 ⟨rfl, rfl⟩)))
      go_ret2
      exact ⟨rfl, HK1.out⟩
    · clear h3
      go_enter Tryd.func6, Tryd.ntmps6
      go_wp2_with (first | (go_at_call 13; refine (HC.out _).mono ?_; rintro e W1 ⟨rfl, hk1⟩; have HK1 := Lib.hid hk1; clear hk1) | (go_at_call 14; first | (with_reducible refine (H1.out _).mono ?_; rintro e W2 ⟨rfl, rfl⟩) | (refine (H2.out _).mono ?_; rintro e W2 ⟨rfl, rfl⟩)))
      go_ret2
      exact ⟨rfl, HK1.out⟩
set_option maxRecDepth 100000 in
set_option maxHeartbeats 4000000 in
theorem parse_good (s C R Z : ByteArray) (pt : Bool) (c0 v : Int) (hcut : ∀ w, Calls Tryd.prog 13 #[.string s, .string ⟨#[46]⟩] w fun e w' => e = .returned (.tuple #[.string C, .string R, .bool pt]) ∧ Keeps w w')
    (hd1 : ∀ w, Calls Tryd.prog 14 #[.string C, .int .i64 1, .int .i64 (s.size : Int)] w fun e w' => e = .returned (.bool true) ∧ w = w')
    (hd2 : pt = true → ∀ w, Calls Tryd.prog 14 #[.string R, .int .i64 1, .int .i64 8] w fun e w' => e = .returned (.bool true) ∧ w = w')
    (hx : ∀ W, (Instr.index 9 (.string C) (.int .i64 0)).run Tryd.prog W = .ok (.int .u8 c0) W)
    (hgood : c0 ≠ 48 ∨ c0 = 48 ∧ ¬ 1 < C.size)
    (hm : R.size ≤ 8)
    (hrep : ∀ w, Calls Tryd.prog 16 #[.string ⟨#[48]⟩, .int .i64 (8 - (R.size : Int))] w fun e w' => e = .returned (.string Z) ∧ Keeps w w')
    (hZ : Z.size ≤ 8) (hpi : ¬ 8 < C.size → ∀ w, Calls Tryd.prog 15 #[.string (C ++ R ++ Z), .int .i64 10, .int .i64 64] w fun e w' => e = .returned (.tuple #[.int .i64 v, .nilIface]) ∧ Keeps w w') (w : World) :
    Calls Tryd.prog 6 #[.string s] w fun e w' => e = .returned (.tuple #[.int .i64 (if 8 < C.size then 0 else vV v), .int .i64 (if 8 < C.size then 6 else vE v)]) ∧ Keeps w w' := by
  have HC := Lib.hid hcut; have H1 := Lib.hid hd1; have HR := Lib.hid hrep
  clear hcut hd1 hrep
  by_cases h8 : 8 < C.size
  · clear hpi
    rw [if_pos h8, if_pos h8]
    rcases pt with _ | _
    · clear hd2
      rcases hgood with hg | ⟨rfl, hg⟩
      · go_enter Tryd.func6, Tryd.ntmps6
        go_wp2_with (first | (go_at_call 13; refine (HC.out _).mono ?_; rintro e W1 ⟨rfl, hk1⟩; have HK1 := Lib.hid hk1; clear hk1) | (go_at_call 14; first | (with_reducible refine (H1.out _).mono ?_; rintro e W2 ⟨rfl, rfl⟩) | (refine (H2.out _).mono ?_; rintro e W2 ⟨rfl, rfl⟩)))
        go_ret2
        exact ⟨rfl, HK1.out⟩
      · exact absurd h8 (by omega)
    · have H2 := Lib.hid (hd2 rfl)
      clear hd2
      rcases hgood with hg | ⟨rfl, hg⟩
      · go_enter Tryd.func6, Tryd.ntmps6
        go_wp2_with (first | (go_at_call 13; refine (HC.out _).mono ?_; rintro e W1 ⟨rfl, hk1⟩; have HK1 := Lib.hid hk1; clear hk1) | (go_at_call 14; first | (with_reducible refine (H1.out _).mono ?_; rintro e W2 ⟨rfl, rfl⟩) | (refine (H2.out _).mono ?_; rintro e W2 ⟨rfl, rfl⟩)))
        go_ret2
        exact ⟨rfl, HK1.out⟩
      · exact absurd h8 (by omega)
  · have HP := Lib.hid (hpi h8)
    clear hpi
    rw [if_neg h8, if_neg h8]
    rcases pt with _ | _
    · clear hd2
      rcases hgood with hg | ⟨rfl, hg⟩
      · go_enter Tryd.func6, Tryd.ntmps6
        go_wp2_with (first | (go_at_call 13; refine (HC.out _).mono ?_; rintro e W1 ⟨rfl, hk1⟩; have HK1 := Lib.hid hk1; clear hk1) | (go_at_call 14; first | (with_reducible refine (H1.out _).mono ?_; rintro e W2 ⟨rfl, rfl⟩) | (refine (H2.out _).mono ?_; rintro e W2 ⟨rfl, rfl⟩)) | (go_at_call 16; refine (HR.out _).mono ?_; rintro e W3 ⟨rfl, hk3⟩; have HK3 := Lib.hid hk3; clear hk3) | (go_at_call 15; refine (HP.out _).mono ?_; rintro e W4 ⟨rfl, hk4⟩; have HK4 := Lib.hid hk4; clear hk4) | (go_at_call 17; refine (validE_any _ _).mono ?_; rintro e W5 ⟨rfl, rfl⟩))
        go_ret2
        exact ⟨rfl, (HK1.out.trans HK3.out).trans HK4.out⟩
      · go_enter Tryd.func6, Tryd.ntmps6
        go_wp2_with (first | (go_at_call 13; refine (HC.out _).mono ?_; rintro e W1 ⟨rfl, hk1⟩; have HK1 := Lib.hid hk1; clear hk1) | (go_at_call 14; first | (with_reducible refine (H1.out _).mono ?_; rintro e W2 ⟨rfl, rfl⟩) | (refine (H2.out _).mono ?_; rintro e W2 ⟨rfl, rfl⟩)) | (go_at_call 16; refine (HR.out _).mono ?_; rintro e W3 ⟨rfl, hk3⟩; have HK3 := Lib.hid hk3; clear hk3) | (go_at_call 15; refine (HP.out _).mono ?_; rintro e W4 ⟨rfl, hk4⟩; have HK4 := Lib.hid hk4; clear hk4) | (go_at_call 17; refine (validE_any _ _).mono ?_; rintro e W5 ⟨rfl, rfl⟩))
        go_ret2
        exact ⟨rfl, (HK1.out.trans HK3.out).trans HK4.out⟩
    · have H2 := Lib.hid (hd2 rfl)
      clear hd2
      rcases hgood with hg | ⟨rfl, hg⟩
      · go_enter Tryd.func6, Tryd.ntmps6
        go_wp2_with (first | (go_at_call 13; refine (HC.out _).mono ?_; rintro e W1 ⟨rfl, hk1⟩; have HK1 := Lib.hid hk1; clear hk1) | (go_at_call 14; first | (with_reducible refine (H1.out _).mono ?_; rintro e W2 ⟨rfl, rfl⟩) | (refine (H2.out _).mono ?_; rintro e W2 ⟨rfl, rfl⟩)) | (go_at_call 16; refine (HR.out _).mono ?_; rintro e W3 ⟨rfl, hk3⟩; have HK3 := Lib.hid hk3; clear hk3) | (go_at_call 15; refine (HP.out _).mono ?_; rintro e W4 ⟨rfl, hk4⟩; have HK4 := Lib.hid hk4; clear hk4) | (go_at_call 17; refine (validE_any _ _).mono ?_; rintro e W5 ⟨rfl, rfl⟩))
        go_ret2
        exact ⟨rfl, (HK1.out.trans HK3.out).trans HK4.out⟩
      · go_enter Tryd.func6, Tryd.ntmps6
        go_wp2_with (first | (go_at_call 13; refine (HC.out _).mono ?_; rintro e W1 ⟨rfl, hk1⟩; have HK1 := Lib.hid hk1; clear hk1) | (go_at_call 14; first | (with_reducible refine (H1.out _).mono ?_; rintro e W2 ⟨rfl, rfl⟩) | (refine (H2.out _).mono ?_; rintro e W2 ⟨rfl, rfl⟩)) | (go_at_call 16; refine (HR.out _).mono ?_; rintro e W3 ⟨rfl, hk3⟩; have HK3 := Lib.hid hk3; clear hk3) | (go_at_call 15; refine (HP.out _).mono ?_; rintro e W4 ⟨rfl, hk4⟩; have HK4 := Lib.hid hk4; clear hk4) | (go_at_call 17; refine (validE_any _ _).mono ?_; rintro e W5 ⟨rfl, rfl⟩))
        go_ret2
        exact ⟨rfl, (HK1.out.trans HK3.out).trans HK4.out⟩
theorem parse_any (s : ByteArray) (hmax : s.size ≤ 281474976710656) (w : World) :
    Calls Tryd.prog 6 #[.string s] w fun e w' => e = .returned (.tuple #[.int .i64 (parV s.data.toList), .int .i64 (parE s.data.toList)]) ∧ Keeps w w' := by
  have hcut := cut_any s hmax
  have hct := coins_tail s.data.toList
  have hlen := congrArg List.length hct
  rw [List.length_append, ← size_list] at hlen
  unfold cutR at hcut
  have hmc : (⟨(coinsL s.data.toList).toArray⟩ : ByteArray).size = (coinsL s.data.toList).length := ba_size _
  have hmr : (⟨(tailL s.data.toList).tail.toArray⟩ : ByteArray).size = (tailL s.data.toList).tail.length := ba_size _
  have htl : (tailL s.data.toList).tail.length ≤ (tailL s.data.toList).length := by rw [List.length_tail]; omega
  have hd1 := digits_any ⟨(coinsL s.data.toList).toArray⟩ (by omega) 1 (s.size : Int)
  have hd2 := digits_any ⟨(tailL s.data.toList).tail.toArray⟩ (by omega) 1 8
  have hx : 0 < (coinsL s.data.toList).length → ∀ W, (Instr.index 9 (.string ⟨(coinsL s.data.toList).toArray⟩) (.int .i64 0)).run Tryd.prog W = .ok (.int .u8 (bAt ⟨(coinsL s.data.toList).toArray⟩ 0)) W := fun h W => run_index_string W _ 0 (by omega)
  unfold parV parE parV' parE'
  generalize coinsL s.data.toList = c at *
  generalize tailL s.data.toList = t at *
  have e1 : (digB c 1 (s.size : Int)) = (c.all isD && decide (1 ≤ c.length)) := by
    unfold digB
    rw [decide_eq_true (p := (c.length : Int) ≤ (s.size : Int)) (by omega), Bool.and_true]
    congr 1
    rw [decide_eq_decide]; omega
  have e2 : digB t.tail 1 8 = (t.tail.all isD && (decide (1 ≤ t.tail.length) && decide (t.tail.length ≤ 8))) := by
    unfold digB
    congr 2 <;> (rw [decide_eq_decide]; omega)
  by_cases hb : badL c t
  · rw [if_pos hb, if_pos hb]
    refine parse_form s ⟨c.toArray⟩ ⟨t.tail.toArray⟩ (decide (t ≠ [])) (digB c 1 (s.size : Int)) (digB t.tail 1 8) (bAt ⟨c.toArray⟩ 0) hcut hd1 hd2 (fun h => ?_) (fun h => hx ?_) ?_ w
    · rw [e1] at h; simp at h; omega
    · rw [e1] at h; simp at h; omega
    · by_cases k1 : digB c 1 (s.size : Int) = false
      · exact .inl k1
      · have k1 : digB c 1 (s.size : Int) = true := by simpa using k1
        have k2 := k1
        rw [e1] at k2
        simp only [Bool.and_eq_true, decide_eq_true_eq] at k2
        by_cases k3 : bAt ⟨c.toArray⟩ 0 = 48 ∧ 1 < (⟨c.toArray⟩ : ByteArray).size
        · exact .inr (.inl ⟨k1, k3⟩)
        · refine .inr (.inr ⟨k1, k3, ?_⟩)
          rcases hb with hb | hb | hb | ⟨hb1, hb2⟩
          · rw [k2.1] at hb; cases hb
          · rw [hb] at k2; simp at k2
          · refine absurd ⟨?_, by omega⟩ k3
            rw [bAt_ba, hb.1]; rfl
          · refine ⟨decide_eq_true hb1, ?_⟩
            rw [e2]
            rcases hb2 with hb2 | hb2 | hb2
            · rw [hb2]; rfl
            · rw [hb2]; rfl
            · rw [decide_eq_false (p := t.tail.length ≤ 8) (by omega), Bool.and_false, Bool.and_false]
  · rw [if_neg hb, if_neg hb]
    have hd : c.all isD = true := by
      cases h : c.all isD
      · exact absurd (.inl h) hb
      · rfl
    have hne : c ≠ [] := fun h => hb (.inr (.inl h))
    have hpos : 0 < c.length := List.length_pos_iff.2 hne
    have hfst : ¬ (c.getD 0 0 = 48 ∧ 1 < c.length) := fun h => hb (.inr (.inr (.inl h)))
    have htail : t ≠ [] → t.tail.all isD = true ∧ 1 ≤ t.tail.length ∧ t.tail.length ≤ 8 := fun h => by
      refine ⟨?_, ?_, ?_⟩
      · cases h2 : t.tail.all isD
        · exact absurd (.inr (.inr (.inr ⟨h, .inl h2⟩))) hb
        · rfl
      · exact List.length_pos_iff.2 (fun h2 => hb (.inr (.inr (.inr ⟨h, .inr (.inl h2)⟩))))
      · exact Nat.le_of_not_lt (fun h2 => hb (.inr (.inr (.inr ⟨h, .inr (.inr h2)⟩))))
    have ht8 : t.tail.length ≤ 8 ∧ t.tail.all isD = true := by
      by_cases h : t = []
      · subst h; simp
      · exact ⟨(htail h).2.2, (htail h).1⟩
    have hcc : ∀ W, Calls Tryd.prog 14 #[.string ⟨c.toArray⟩, .int .i64 1, .int .i64 (s.size : Int)] W fun e w' => e = .returned (.bool true) ∧ W = w' := fun W => by
      have := hd1 W
      rwa [show digB (⟨c.toArray⟩ : ByteArray).data.toList 1 (s.size : Int) = true by
        show digB c 1 (s.size : Int) = true
        rw [e1, hd, decide_eq_true (by omega)]; rfl] at this
    have hrr : decide (t ≠ []) = true → ∀ W, Calls Tryd.prog 14 #[.string ⟨t.tail.toArray⟩, .int .i64 1, .int .i64 8] W fun e w' => e = .returned (.bool true) ∧ W = w' := fun h W => by
      have h := htail (by simpa using h)
      have := hd2 W
      rwa [show digB (⟨t.tail.toArray⟩ : ByteArray).data.toList 1 8 = true by
        show digB t.tail 1 8 = true
        rw [e2, h.1, decide_eq_true h.2.1, decide_eq_true h.2.2]; rfl] at this
    have hrep : ∀ W, Calls Tryd.prog 16 #[.string ⟨#[48]⟩, .int .i64 (8 - ((⟨t.tail.toArray⟩ : ByteArray).size : Int))] W fun e w' => e = .returned (.string ⟨(List.replicate (8 - t.tail.length) 48).toArray⟩) ∧ Keeps W w' := fun W => by
      have := repeat_any (8 - t.tail.length) W (by omega)
      rwa [show ((8 - t.tail.length : Nat) : Int) = 8 - ((⟨t.tail.toArray⟩ : ByteArray).size : Int) by rw [hmr]; omega] at this
    have hg := parse_good s ⟨c.toArray⟩ ⟨t.tail.toArray⟩ ⟨(List.replicate (8 - t.tail.length) 48).toArray⟩ (decide (t ≠ [])) (bAt ⟨c.toArray⟩ 0) (valL c t) hcut hcc hrr (hx hpos) ?_ (by omega) hrep (by rw [ba_size, List.length_replicate]; omega) ?_ w
    · rw [hmc] at hg
      exact hg
    · rw [bAt_ba, hmc]
      by_cases h : c.getD 0 0 = 48
      · exact .inr ⟨by rw [h]; rfl, fun h2 => hfst ⟨h, h2⟩⟩
      · exact .inl (fun h2 => h (UInt8.toNat_inj.1 (by have : ((c.getD 0 0).toNat : Int) = 48 := h2; show (c.getD 0 0).toNat = 48; omega)))
    · intro h8 W
      rw [hmc] at h8
      rw [ba_append, ba_append]
      unfold valL
      have hall : (c ++ t.tail ++ List.replicate (8 - t.tail.length) 48).all isD = true := by rw [List.all_append, List.all_append, hd, ht8.2, all_zeros]; rfl
      have hl : (c ++ t.tail ++ List.replicate (8 - t.tail.length) 48).length = c.length + 8 := by
        rw [List.length_append, List.length_append, List.length_replicate]; have := ht8.1; omega
      have hlt := numF_lt _ 0 hall
      rw [hl] at hlt
      have hp : 10 ^ (c.length + 8) ≤ 10 ^ 16 := Nat.pow_le_pow_right (by omega) (by omega)
      exact pint_any _ (by intro e; have := congrArg List.length e; rw [hl] at this; simp at this) hall (by omega) (by rw [hl]; omega) W
end Go.Proofs.YtigbngdeffbhnaaDoor
