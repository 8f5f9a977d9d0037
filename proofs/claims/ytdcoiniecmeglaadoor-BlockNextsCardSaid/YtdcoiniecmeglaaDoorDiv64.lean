/- math/bits.Div64 at the divisor 4800. -/
import Derived.Test.YtdcoiniecmeglaaDoorNumSpec5
import Derived.Test.YtdcoiniecmeglaaDoorShelf
import Derived.Test.YtdcoiniecmeglaaDoorRefDbl
import Derived.Deep.Cut
namespace Go.Proofs.YtdcoiniecmeglaaDoor
set_option linter.unusedVariables false
set_option linter.unusedSimpArgs false
open Go Go.RowKit

theorem u64_low (x : Int) (h0 : 0 ≤ x) (h1 : x < 18446744073709551616) : bits .and .u64 x 4294967295 = x % 4294967296 := by
  have h := bits_mask .u64 64 (by decide) w64_wraps 32 (by decide) x h0 (by rw [show (2 : Int) ^ 64 = 18446744073709551616 by decide]; exact h1)
  have e : ((2 : Int) ^ 32 - 1) = 4294967295 := by decide
  have e2 : ((2 : Int) ^ 32) = 4294967296 := by decide
  rw [e, e2] at h
  exact h
theorem results_two {P : Program} {fn : Func} {t u : Tmp} (h : fn.results = #[.tmp t, .tmp u]) (tmps : Array Value) (w : World) (x y : Value) (hx : tmps.getD t undef = x) (hy : tmps.getD u undef = y) :
    (results fn tmps).run P w = .ok (.tuple #[x, y]) w := by
  have hx' : tmps[t]?.getD undef = x := by simpa using hx
  have hy' : tmps[u]?.getD undef = y := by simpa using hy
  simp [results, h, hx', hy']
theorem div_parts {hi lo U X q r V p s : Int} (h0 : 0 ≤ hi) (h1 : hi < 4800) (l0 : 0 ≤ lo) (l1 : lo < 18446744073709551616)
    (hU : U = hi * 2251799813685248 + lo / 8192) (hX : X = lo % 8192 * 524288) (hq : q = U / 2516582400) (hr : r = U % 2516582400)
    (hV : V = r * 4294967296 + X) (hp : p = V / 2516582400) (hs : s = V % 2516582400) :
    q * 4294967296 + p = (hi * 18446744073709551616 + lo) / 4800 ∧ s / 524288 = (hi * 18446744073709551616 + lo) % 4800 := by
  have e1 : (hi * 18446744073709551616 + lo) * 524288 = U * 4294967296 + X := by omega
  have e2 : U * 4294967296 + X = 2516582400 * (q * 4294967296 + p) + s := by omega
  have hs0 : 0 ≤ s ∧ s < 2516582400 := by omega
  clear hU hX hq hr hV hp hs
  omega
set_option maxRecDepth 100000 in
set_option maxHeartbeats 4000000 in
theorem div64_any (hi lo : Int) (h0 : 0 ≤ hi) (h1 : hi < 4800) (l0 : 0 ≤ lo) (l1 : lo < 18446744073709551616) (w : World) :
    Calls Tryd.prog 35 #[.int .u64 hi, .int .u64 lo, .int .u64 4800] w fun e w' => e = .returned (.tuple #[.int .u64 ((hi * 18446744073709551616 + lo) / 4800), .int .u64 ((hi * 18446744073709551616 + lo) % 4800)]) ∧ Keeps w w' := by
  by_cases hz : hi = 0
  · subst hz
    go_enter Tryd.func35, Tryd.ntmps35
    go_wp2
    go_region
    go_wp2
    exact bodyPost_ret (v := .tuple #[.int .u64 (lo / 4800), .int .u64 (lo % 4800)]) (results_two (t := 6) (u := 7) rfl _ _ _ _ rfl rfl) rfl ⟨by rw [Int.zero_mul, Int.zero_add], keeps_drew1 (Keeps.refl _)⟩
  · have hlz : ∀ W, Calls Tryd.prog 47 #[.int .u64 4800] W fun e w' => e = .returned (.int .i64 51) ∧ w' = W := fun W => by
      have := Tryd.bits_LeadingZeros64 4800 W (by decide) (by decide)
      rwa [show (64 - (Lib.bitLen (4800 : Int).toNat : Int)) = 51 by decide] at this
    have HLZ := Lib.hid hlz
    clear hlz
    obtain ⟨U, hU⟩ : ∃ x, x = hi * 2251799813685248 + lo / 8192 := ⟨_, rfl⟩
    obtain ⟨X, hX⟩ : ∃ x, x = lo % 8192 * 524288 := ⟨_, rfl⟩
    obtain ⟨q, hq⟩ : ∃ x, x = U / 2516582400 := ⟨_, rfl⟩
    obtain ⟨r, hr⟩ : ∃ x, x = U % 2516582400 := ⟨_, rfl⟩
    obtain ⟨V, hV⟩ : ∃ x, x = r * 4294967296 + X := ⟨_, rfl⟩
    obtain ⟨p, hp⟩ : ∃ x, x = V / 2516582400 := ⟨_, rfl⟩
    obtain ⟨s, hs⟩ : ∃ x, x = V % 2516582400 := ⟨_, rfl⟩
    have hfin := div_parts h0 h1 l0 l1 hU hX hq hr hV hp hs
    have eU : bits .or .u64 (hi * 2251799813685248) (lo / 8192) = U := by
      rw [hU]
      refine u64_join 51 _ _ (by omega) ?_ ?_ (by omega) ?_ ?_
      · rw [show (2 : Int) ^ 51 = 2251799813685248 by decide]; omega
      · rw [show (2 : Int) ^ 64 = 18446744073709551616 by decide]; omega
      · rw [show (2 : Int) ^ 51 = 2251799813685248 by decide]; omega
      · rw [show (2 : Int) ^ 64 = 18446744073709551616 by decide]; omega
    have eL : IntKind.u64.wrap (lo * 2251799813685248) = X * 4294967296 := by rw [IntKind.wrap_u64, hX]; omega
    have eX : X * 4294967296 / 4294967296 = X := by omega
    have eM : bits .and .u64 (X * 4294967296) 4294967295 = 0 := by rw [u64_low _ (by omega) (by omega)]; omega
    have eZ : bits .and .u64 10808639105689190400 4294967295 = 0 := by rw [u64_low _ (by decide) (by decide)]; decide
    have eq1 : IntKind.u64.wrap (U.tdiv 2516582400) = q := by rw [Int.tdiv_eq_ediv_of_nonneg (by omega), ← hq, IntKind.wrap_u64]; omega
    have er : IntKind.u64.wrap (U - q * 2516582400) = r := by rw [IntKind.wrap_u64]; omega
    have c1 : IntKind.u64.wrap (4294967296 * r) = 4294967296 * r := by rw [IntKind.wrap_u64]; omega
    have c2 : IntKind.u64.wrap (4294967296 * r + X) = 4294967296 * r + X := by rw [IntKind.wrap_u64]; omega
    have eV : IntKind.u64.wrap (IntKind.u64.wrap (IntKind.u64.wrap (U * 4294967296) + X) - IntKind.u64.wrap (q * 10808639105689190400)) = V := by
      simp only [IntKind.wrap_u64]; omega
    have ep : IntKind.u64.wrap (V.tdiv 2516582400) = p := by rw [Int.tdiv_eq_ediv_of_nonneg (by omega), ← hp, IntKind.wrap_u64]; omega
    have es : IntKind.u64.wrap (V - p * 2516582400) = s := by rw [IntKind.wrap_u64]; omega
    have d1 : IntKind.u64.wrap (4294967296 * s) = 4294967296 * s := by rw [IntKind.wrap_u64]; omega
    have f1 : IntKind.u64.wrap (IntKind.u64.wrap (q * 4294967296) + p) = q * 4294967296 + p := by simp only [IntKind.wrap_u64]; omega
    have f2 : IntKind.u64.wrap (IntKind.u64.wrap (IntKind.u64.wrap (V * 4294967296)) - IntKind.u64.wrap (p * 10808639105689190400)) / 2251799813685248 = s / 524288 := by
      have e2 : (V * 4294967296 % 18446744073709551616 % 18446744073709551616 - p * 10808639105689190400 % 18446744073709551616) % 18446744073709551616 = s * 4294967296 := by
        have : V * 4294967296 - p * 10808639105689190400 = s * 4294967296 := by omega
        omega
      simp only [IntKind.wrap_u64]
      rw [e2]
      omega
    have hq0 : 0 ≤ q ∧ q < 4294967296 := by omega
    have hp0 : 0 ≤ p ∧ p < 4294967296 := by omega
    have hr0 : 0 ≤ r := by omega
    have hs0 : 0 ≤ s := by omega
    have hX0 : 0 ≤ X := by omega
    have HF := Lib.hid hfin; have EU := Lib.hid eU; have EL := Lib.hid eL; have EX := Lib.hid eX; have EM := Lib.hid eM; have EZ := Lib.hid eZ; have EQ1 := Lib.hid eq1; have ER := Lib.hid er; have EV := Lib.hid eV; have EP := Lib.hid ep; have ES := Lib.hid es; have F1 := Lib.hid f1; have F2 := Lib.hid f2
    clear hfin eU eL eX eM eZ eq1 er eV ep es f1 f2 hU hX hq hr hV hp hs
    go_enter Tryd.func35, Tryd.ntmps35
    go_upto_region 7 with (fail)
    go_upto_region 11 with (go_at_call 47; refine (HLZ.out _).mono ?_; rintro e W2 ⟨rfl, rfl⟩)
    rw [EZ.out]
    go_upto_region 12 with (fail)
    rw [EU.out]
    go_upto_region 13 with (fail)
    rw [EL.out]
    go_upto_region 14 with (fail)
    go_upto_region 15 with (fail)
    rw [EM.out]
    go_upto_region 16 with (fail)
    rw [EQ1.out]
    go_wp2
    rw [ER.out]
    go_loopw [15, 16] (fun c cc wr => c = .int .u64 q ∧ cc = .int .u64 r ∧ wr = W2) (fun _ _ _ => 0)
    case atStart => exact ⟨rfl, rfl, rfl⟩
    case round =>
      obtain ⟨rfl, rfl, rfl⟩ := hrel
      have g1 : ¬ 4294967296 ≤ q := by omega
      have g2 : ¬ 4294967296 * r + X < 0 := by omega
      go_upto_region 22 with (fail)
      rw [EV.out]
      go_upto_region 23 with (fail)
      rw [EP.out]
      go_wp2
      rw [ES.out]
      go_loopw [18, 16] (fun c cc wr2 => c = .int .u64 p ∧ cc = .int .u64 s ∧ wr2 = wr) (fun _ _ _ => 0)
      case atStart => exact ⟨rfl, rfl, rfl⟩
      case round =>
        obtain ⟨rfl, rfl, rfl⟩ := hrel
        have g3 : ¬ 4294967296 ≤ p := by omega
        have g4 : ¬ 4294967296 * s + 0 < 0 := by omega
        go_wp2
        rw [F2.out]
        exact bodyPost_ret (v := .tuple #[.int .u64 (q * 4294967296 + p), .int .u64 (s / 524288)]) (results_two (t := 6) (u := 7) rfl _ _ _ _ rfl rfl) rfl ⟨by rw [HF.out.1, HF.out.2], Keeps.refl _⟩
end Go.Proofs.YtdcoiniecmeglaaDoor
