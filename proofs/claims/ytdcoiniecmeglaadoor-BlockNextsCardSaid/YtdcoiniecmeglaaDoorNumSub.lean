/- The new coins of a height, in the code and in the reference. -/
import Derived.Test.YtdcoiniecmeglaaDoorNumTgt
namespace Go.Proofs.YtdcoiniecmeglaaDoor
set_option linter.unusedVariables false
set_option linter.unusedSimpArgs false
open Go Go.RowKit

set_option maxRecDepth 100000 in
set_option maxHeartbeats 1000000 in
theorem subsidy_any (h : Int) (h0 : -9223372036854775808 ≤ h) (h1 : h < 9223372036854775808) (w : World) :
    Calls Tryd.prog 19 #[.int .i64 h] w fun e w' => e = .returned (.int .i64 (subsidy h)) ∧ w = w' := by
  have hs1 : h < 0 → subsidy h = 0 := fun hh => if_pos hh
  have hs2 := subsidy_late h
  have hs3 : ¬ h < 0 → subsidy h = 5000000000 / 2 ^ (h / 150).toNat := fun hh => if_neg hh
  generalize subsidy h = S at *
  have HS1 := Lib.hid hs1; have HS2 := Lib.hid hs2; have HS3 := Lib.hid hs3
  clear hs1 hs2 hs3
  by_cases hn : h < 0
  · have hS := HS1.out hn
    have HS := Lib.hid hS
    clear hS
    go_enter Tryd.func19, Tryd.ntmps19
    go_wp2
    go_ret
    exact ⟨ret_int HS.out.symm, rfl⟩
  · obtain ⟨k, hk⟩ : ∃ k : Nat, h / 150 = k := ⟨(h / 150).toNat, by omega⟩
    have ht : h.tdiv 150 = k := by rw [Int.tdiv_eq_ediv_of_nonneg (by omega), hk]
    have h150 : h = 150 * k + h % 150 := by omega
    by_cases hb : 64 ≤ k
    · have hS := HS2.out (by omega)
      have HS := Lib.hid hS
      have hkb : (k : Int) < 9223372036854775808 := by omega
      have hkl : (64 : Int) ≤ k := by omega
      generalize (k : Int) = z at *
      clear hS h150 hk hb
      go_enter Tryd.func19, Tryd.ntmps19
      go_wp2
      go_ret
      exact ⟨ret_int HS.out.symm, rfl⟩
    · have hS := HS3.out hn
      rw [hk, Int.toNat_natCast] at hS
      have HS := Lib.hid hS
      clear hS hk h150
      go_enter Tryd.func19, Tryd.ntmps19
      go_wp2
      go_ret
      exact ⟨ret_int HS.out.symm, rfl⟩
set_option maxRecDepth 100000 in
set_option maxHeartbeats 1000000 in
theorem rsubsidy_any (h : Int) (h0 : -9223372036854775808 ≤ h) (h1 : h < 9223372036854775808) (w : World) :
    Calls Tryd.prog 20 #[.int .i64 h] w fun e w' => e = .returned (.int .i64 (subsidy h)) ∧ w = w' := by
  have hs1 : h < 0 → subsidy h = 0 := fun hh => if_pos hh
  have hs3 : ¬ h < 0 → subsidy h = 5000000000 / 2 ^ (h / 150).toNat := fun hh => if_neg hh
  generalize subsidy h = S at *
  have HS1 := Lib.hid hs1; have HS3 := Lib.hid hs3
  clear hs1 hs3
  by_cases hn : h < 0
  · have hS := HS1.out hn
    have HS := Lib.hid hS
    clear hS
    go_enter Tryd.func20, Tryd.ntmps20
    go_wp2
    go_ret
    exact ⟨ret_int HS.out.symm, rfl⟩
  · have hS := HS3.out hn
    have HS := Lib.hid hS
    clear hS
    go_enter Tryd.func20, Tryd.ntmps20
    go_wp2
    go_loopw [3, 4] (fun n c wr => wr = w ∧ ∃ k : Nat, ∃ r : Int, 0 ≤ r ∧ h = 150 * k + r ∧ c = .int .i64 r ∧ n = .int .i64 (5000000000 / 2 ^ k)) (fun _ c _ => (intOf c).toNat)
    case atStart => exact ⟨rfl, 0, h, by omega, by omega, rfl, by simp⟩
    case round =>
      obtain ⟨rfl, k, r, hr, hk, rfl, rfl⟩ := hrel
      obtain ⟨p0, p1⟩ := half_pos k
      have hh := half_pow k
      have hz := fun n hn => half_zero (k := k) (n := n) hn
      have hru : r < 9223372036854775808 := by omega
      have hq : r < 150 → (h / 150).toNat = k := fun _ => by omega
      have hq2 : k ≤ (h / 150).toNat := by omega
      have HH := Lib.hid hh; have HZ := Lib.hid (hz _ hq2); have HKK := Lib.hid hk; have HQ := Lib.hid hq
      have hN : r < 150 → 5000000000 / 2 ^ k = S := fun hl => by rw [HS.out, hq hl]
      have HN := Lib.hid hN
      clear hh hz hk hq hq2 hN
      generalize (5000000000 : Int) / 2 ^ k = N at *
      by_cases hbig : 150 ≤ r
      · by_cases hpos : 0 < N
        · have ht : N.tdiv 2 = N / 2 := Int.tdiv_eq_ediv_of_nonneg (by omega)
          go_wp2
          exact ⟨⟨trivial, k + 1, r - 150, by omega, by rw [HKK.out]; omega, rfl, by rw [HH.out]⟩, by simp [intOf]; omega⟩
        · obtain rfl : N = 0 := by omega
          have hS := HZ.out rfl
          rw [← HS.out] at hS
          have HS2 := Lib.hid hS
          clear hS
          go_wp2
          go_ret
          exact ⟨ret_int HS2.out.symm, rfl⟩
      · have HS2 := Lib.hid (HN.out (by omega))
        go_wp2
        go_ret
        exact ⟨ret_int HS2.out, rfl⟩
end Go.Proofs.YtdcoiniecmeglaaDoor
