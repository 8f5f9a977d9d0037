/- AmountTexts: amounts are written in coins and read back; other texts are refused with the right error. -/
import Derived.Test.YtigbngdeffbhnaaDoorTxtDec
namespace Go.Proofs.YtigbngdeffbhnaaDoor
set_option linter.unusedVariables false
set_option linter.unusedSimpArgs false
open Go Go.RowKit

theorem fmtL_length (v : Int) : (fmtL v).length ≤ 20 := by
  unfold fmtL
  split
  · rename_i hv
    obtain ⟨h0, h1⟩ := validB_of hv
    have := dec_length 7 (v.toNat / 100000000) (by omega)
    unfold fmtN
    rw [List.length_append, List.length_cons, padR_length]
    omega
  · simp
set_option maxRecDepth 100000 in
set_option maxHeartbeats 4000000 in
theorem texts_any (v : Int) (s : ByteArray) (hmax : s.size ≤ 281474976710656) (w : World) (hp : PowTab w) :
    Calls Tryd.prog 3 #[.int .i64 v, .string s] w fun e w' => e = .returned (.bool true) ∧ Keeps w w' := by
  have hf := fun W h => format_any v W h
  have hg := fun W => rformat_any v W
  have hl := fmtL_length v
  have hpf := parse_any ⟨(fmtL v).toArray⟩ (by rw [ba_size]; omega)
  have hback : validB v = true → parV (fmtL v) = v ∧ parE (fmtL v) = 0 := fun hv => by
    obtain ⟨h0, h1⟩ := validB_of hv
    obtain ⟨u, rfl⟩ := Int.eq_ofNat_of_zero_le h0
    have := fmt_parse u (by omega)
    unfold fmtL
    rw [if_pos hv, Int.toNat_natCast]
    exact this
  have hps := parse_any s hmax
  have hrs := rparse_any s hmax
  obtain ⟨q1, q2⟩ := parse_same s.data.toList
  rw [q1, q2] at hrs
  have hpf : ∀ W, Calls Tryd.prog 6 #[.string ⟨(fmtL v).toArray⟩] W fun e w' => e = .returned (.tuple #[.int .i64 (parV (fmtL v)), .int .i64 (parE (fmtL v))]) ∧ Keeps W w' := hpf
  generalize parV (fmtL v) = BV at *
  generalize parE (fmtL v) = BE at *
  generalize (⟨(fmtL v).toArray⟩ : ByteArray) = T at *
  generalize parV s.data.toList = XV at *
  generalize parE s.data.toList = XE at *
  have HP := Lib.hid hp; have HF := Lib.hid hf; have HG := Lib.hid hg; have HPF := Lib.hid hpf; have HPS := Lib.hid hps; have HRS := Lib.hid hrs; have HBK := Lib.hid hback
  clear hf hg hpf hps hrs hp hback q1 q2 hl
  by_cases hv : validB v = true
  · obtain ⟨rfl, rfl⟩ := HBK.out hv
    go_enter Tryd.func3, Tryd.ntmps3
    go_wp2_with (first | (go_at_call 4; refine (awake_any _ HP.out).mono ?_; rintro e W1 ⟨rfl, hk1⟩; have HK1 := Lib.hid hk1; clear hk1) | (go_at_call 5; refine (HF.out _ (HP.out.keeps HK1.out)).mono ?_; rintro e W2 ⟨rfl, hk2⟩; have HK2 := Lib.hid hk2; clear hk2) | (go_at_call 6; first | (with_reducible refine (HPF.out _).mono ?_; rintro e W3 ⟨rfl, hk3⟩; have HK3 := Lib.hid hk3; clear hk3) | (with_reducible refine (HPS.out _).mono ?_; rintro e W5 ⟨rfl, hk5⟩; have HK5 := Lib.hid hk5; clear hk5)) | (go_at_call 7; refine (HG.out _).mono ?_; rintro e W4 ⟨rfl, hk4⟩; have HK4 := Lib.hid hk4; clear hk4) | (go_at_call 8; refine (rvalid_any _ _).mono ?_; rintro e w' ⟨rfl, rfl⟩) | (go_at_call 9; refine (HRS.out _).mono ?_; rintro e w' ⟨rfl, rfl⟩))
    go_ret
    exact ⟨rfl, (((HK1.out.trans HK2.out).trans HK3.out).trans HK4.out).trans HK5.out⟩
  · have hv : validB v = false := by simpa using hv
    clear HBK
    go_enter Tryd.func3, Tryd.ntmps3
    go_wp2_with (first | (go_at_call 4; refine (awake_any _ HP.out).mono ?_; rintro e W1 ⟨rfl, hk1⟩; have HK1 := Lib.hid hk1; clear hk1) | (go_at_call 5; refine (HF.out _ (HP.out.keeps HK1.out)).mono ?_; rintro e W2 ⟨rfl, hk2⟩; have HK2 := Lib.hid hk2; clear hk2) | (go_at_call 6; first | (with_reducible refine (HPF.out _).mono ?_; rintro e W3 ⟨rfl, hk3⟩; have HK3 := Lib.hid hk3; clear hk3) | (with_reducible refine (HPS.out _).mono ?_; rintro e W5 ⟨rfl, hk5⟩; have HK5 := Lib.hid hk5; clear hk5)) | (go_at_call 7; refine (HG.out _).mono ?_; rintro e W4 ⟨rfl, hk4⟩; have HK4 := Lib.hid hk4; clear hk4) | (go_at_call 8; refine (rvalid_any _ _).mono ?_; rintro e w' ⟨rfl, rfl⟩) | (go_at_call 9; refine (HRS.out _).mono ?_; rintro e w' ⟨rfl, rfl⟩))
    go_ret
    exact ⟨rfl, (((HK1.out.trans HK2.out).trans HK3.out).trans HK4.out).trans HK5.out⟩
end Go.Proofs.YtigbngdeffbhnaaDoor
