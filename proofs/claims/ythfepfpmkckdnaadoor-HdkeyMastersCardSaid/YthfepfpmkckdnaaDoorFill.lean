/- The reference's fill: a message, a one bit, noughts, and its length in some bytes. At blocks of 64 bytes with 8 bytes of length, and at 128 with 16. -/
import Derived.Test.YthfepfpmkckdnaaDoorOwn
namespace Go.Proofs.YthfepfpmkckdnaaDoor
set_option linter.unusedVariables false
set_option linter.unusedSimpArgs false
open Go Go.RowKit

/-- the k lowest bytes of a number, the lowest first -/
def lowB (v : Int) : Nat → List Int
  | 0 => []
  | k + 1 => lowB v k ++ [v / 256 ^ k % 256]
theorem lowB_length (v : Int) (k : Nat) : (lowB v k).length = k := by
  induction k with
  | zero => rfl
  | succ k ih => simp [lowB, ih]
theorem lowB_getD (v : Int) (k i : Nat) (h : i < k) : (lowB v k).getD i 0 = v / 256 ^ i % 256 := by
  induction k with
  | zero => omega
  | succ k ih =>
    by_cases hi : i < k
    · rw [← ih hi]
      simp [lowB, List.getD, List.getElem?_append_left, lowB_length, hi]
    · obtain rfl : i = k := by omega
      simp [lowB, List.getD, lowB_length]
theorem lowB_take (v : Int) (k i : Nat) (h : i ≤ k) : (lowB v k).take i = lowB v i := by
  induction k with
  | zero => obtain rfl : i = 0 := by omega
            rfl
  | succ k ih =>
    by_cases hi : i ≤ k
    · rw [lowB, List.take_append_of_le_length (by rw [lowB_length]; exact hi), ih hi]
    · obtain rfl : i = k + 1 := by omega
      rw [List.take_of_length_le (by rw [lowB_length]; omega)]
theorem lowB_div (v : Int) (k : Nat) : v / 256 ^ k / 256 = v / 256 ^ (k + 1) := by
  rw [Int.pow_succ, Int.ediv_ediv_of_nonneg (Int.pow_nonneg (by decide))]
/-- so many noughts -/
def fillN (size len n : Nat) : Nat := size - 1 - (n + len) % size
/-- what is filled in behind n bytes -/
def fillL (size len n : Nat) (low : Bool) : List Int := 128 :: (List.replicate (fillN size len n) 0 ++ (if low then lowB (n * 8) len else (lowB (n * 8) len).reverse))
theorem fillL_length (size len n : Nat) (low : Bool) : (fillL size len n low).length = 1 + fillN size len n + len := by
  cases low <;> simp [fillL, lowB_length] <;> omega
/-- the same, with i bytes of the length -/
def fillP (z : List Int) (f : Nat) (v : Int) (len : Nat) (low : Bool) (i : Nat) : List Int := z ++ 128 :: (List.replicate f 0 ++ ((if low then lowB v len else (lowB v len).reverse).take i))
theorem fillP_zero (z : List Int) (f : Nat) (v : Int) (len : Nat) (low : Bool) : fillP z f v len low 0 = z ++ 128 :: List.replicate f 0 := by simp [fillP]
theorem fillP_full (z : List Int) (f : Nat) (v : Int) (len : Nat) (low : Bool) : fillP z f v len low len = z ++ 128 :: (List.replicate f 0 ++ (if low then lowB v len else (lowB v len).reverse)) := by
  unfold fillP
  rw [List.take_of_length_le]
  cases low <;> simp [lowB_length]
theorem fillP_low (z : List Int) (f : Nat) (v : Int) (len i : Nat) (h : i < len) : fillP z f v len true i ++ [v / 256 ^ i % 256] = fillP z f v len true (i + 1) := by
  have e : (lowB v len).take (i + 1) = (lowB v len).take i ++ [v / 256 ^ i % 256] := by rw [lowB_take _ _ _ (by omega), lowB_take _ _ _ (by omega), lowB]
  simp [fillP, e]
theorem fillP_high (z : List Int) (f : Nat) (v : Int) (len i : Nat) (h : i < len) : fillP z f v len false i ++ [v / 256 ^ (len - 1 - i) % 256] = fillP z f v len false (i + 1) := by
  have hl : i < (lowB v len).reverse.length := by simpa [lowB_length] using h
  have e : (lowB v len).reverse.take (i + 1) = (lowB v len).reverse.take i ++ [v / 256 ^ (len - 1 - i) % 256] := by
    rw [List.take_succ_eq_append_getElem hl]
    congr 2
    rw [List.getElem_reverse]
    have := lowB_getD v len (len - 1 - i) (by omega)
    have hj : len - 1 - i < (lowB v len).length := by rw [lowB_length]; omega
    simp only [lowB_length]
    rw [← this]
    simp [List.getD, hj]
  simp [fillP, e]
set_option maxHeartbeats 1000000 in
set_option maxRecDepth 100000 in
theorem fill_any (size len : Nat) (hs : size = 64 ∧ len = 8 ∨ size = 128 ∧ len = 16) (low : Bool) (v : Value) (n : Nat) (zs : List Int) (w : World) (hr : Rd w 1 v n (zs.map (Value.int .u8))) (hn : n ≤ 70368744177664) :
    Calls Tryd.prog 48 #[v, .int .i64 size, .int .i64 len, .bool low] w fun e w' => ∃ v', e = .returned v' ∧ Own w w' v' (n + (1 + fillN size len n + len)) (zs ++ fillL size len n low) := by
  have hf : fillN size len n < size := by unfold fillN; rcases hs with ⟨rfl, rfl⟩ | ⟨rfl, rfl⟩ <;> omega
  have hstop : ∀ j : Nat, j ≤ fillN size len n → (((n : Int) + 1 + j) % size = (size : Int) - len ↔ j = fillN size len n) := by
    intro j hj
    unfold fillN at *
    rcases hs with ⟨rfl, rfl⟩ | ⟨rfl, rfl⟩ <;> constructor <;> intro h <;> omega
  have HP := Lib.hid (fillP_zero zs (fillN size len n) ((n : Int) * 8) len low)
  have HQ : Hid (fillP zs (fillN size len n) ((n : Int) * 8) len low len = zs ++ fillL size len n low) := Lib.hid (fillP_full _ _ _ _ _)
  generalize fillL size len n low = FL at *
  generalize fillN size len n = f at *
  have HSTOP := Lib.hid hstop
  have HR := Lib.hid hr
  have hlr := hr.1
  have hv : ∃ a cap, v = .slice a n cap := by obtain ⟨_, a, cap, h, _⟩ := hr; exact ⟨a, cap, h⟩
  obtain ⟨a, cap, rfl⟩ := hv
  clear hr hstop hlr
  obtain ⟨L, hL⟩ : ∃ L, L = len := ⟨_, rfl⟩
  rcases hs with ⟨rfl, rfl⟩ | ⟨rfl, rfl⟩
  all_goals
    go_enter Tryd.func48, Tryd.ntmps48
    go_wp2_with (first | (refine own_append1 rfl _ _ rfl HO.out rfl 1 _ _ rfl (by omega) ?_; clear HO; intro v1 w1 hO1 hG1; have HO := Lib.hid hO1; clear hO1 hG1) | (refine own_append rfl _ _ rfl (Own.made w _) (Keeps.refl _) rfl _ rfl n zs ((HR.out.keeps (Own.made w 5).keeps).src Tryd.underlying22 (int_oneCell zs)) (by omega) ?_; intro v1 w1 hO1 hG1; have HO := Lib.hid hO1; clear hO1 hG1))
    have hO1 := HO.out
    rw [Nat.zero_add, List.nil_append] at hO1
    have HO2 := Lib.hid hO1
    clear hO1 HO
    go_loopw [9] (fun c wr => ∃ j : Nat, j ≤ f ∧ Own w wr c (n + 1 + j) (zs ++ 128 :: List.replicate j 0)) (fun c _ => f + n + 1 - slLen c)
    case atStart => exact ⟨0, by omega, by simpa using HO2.out⟩
    case round =>
      obtain ⟨j, hj, hO⟩ := hrel
      obtain ⟨ca, cc, rfl⟩ := hO.any
      have HO := Lib.hid hO
      have hst := HSTOP.out j hj
      clear hO
      by_cases hjf : j = f
      · have hst' := hst.2 hjf
        subst hjf
        rw [← HP.out] at HO
        clear hst
        obtain ⟨wl, hwl⟩ : ∃ wl, wl = wr := ⟨_, rfl⟩
        subst hwl
        go_wp2
        have hx := ‹(_ != _) = false›
        rw [hx]
        clear hx hst'
        go_loopw [10, 11, 12] (fun cn cl ci wr => ∃ i : Nat, i ≤ L ∧ ci = .int .i64 i ∧ cn = .int .u64 ((n : Int) * 8 / 256 ^ i) ∧ Own wl wr cl i (lowB ((n : Int) * 8) i)) (fun _ _ ci _ => (L - intOf ci).toNat)
        case atStart => exact ⟨0, by omega, rfl, by simp, Own.nil _⟩
        case round =>
          obtain ⟨i, hi, rfl, rfl, hOl⟩ := hrel
          obtain ⟨la, lc, rfl⟩ := hOl.any
          have HOL := Lib.hid hOl
          clear hOl
          have hdv := lowB_div ((n : Int) * 8) i
          have hnn : 0 ≤ (n : Int) * 8 / 256 ^ i := Int.ediv_nonneg (by omega) (Int.pow_nonneg (by decide))
          have hnm : (n : Int) * 8 / 256 ^ i ≤ (n : Int) * 8 := Int.ediv_le_self _ (by omega)
          have HLB : Hid (lowB ((n : Int) * 8) (i + 1) = lowB ((n : Int) * 8) i ++ [(n : Int) * 8 / 256 ^ i % 256]) := Lib.hid rfl
          by_cases hlt : i < L
          · generalize (n : Int) * 8 / 256 ^ i = x at *
            go_wp2_with (refine own_append1 rfl _ _ rfl HOL.out rfl 1 _ _ rfl (by omega) ?_; clear HOL; intro v1 w1 hO1 hG1; have HOL := Lib.hid hO1; clear hO1 hG1)
            go_roundw
            case rel => exact ⟨i + 1, by omega, by go_num, by rw [hdv], by rw [HLB.out]; exact HOL.out⟩
            case measure => simp [intOf]; omega
          · obtain rfl : i = L := by omega
            have hap : Apart wr (.slice la i lc) (.slice ca (n + 1 + j) cc) := fun g e => ⟨HOL.out.buf.lt e, fun e2 => by have h1 := HOL.out.new g e; have h2 := HO.out.buf.lt e2; omega⟩
            have hrl := HOL.out.rd
            have hO3 := HO.out.step HOL.out.keeps
            have HRL := Lib.hid hrl; have HAP := Lib.hid hap; have HO3 := Lib.hid hO3
            have hlb := lowB_length ((n : Int) * 8) i
            have HLG := Lib.hid (lowB_getD ((n : Int) * 8) i)
            clear hrl hap hO3 HO HOL hdv hnn hnm HLB
            go_wp2
            have HL := Lib.hid hL
            clear hL
            generalize Value.int .i64 (i : Int) = vi
            generalize Value.int .u64 ((n : Int) * 8 / 256 ^ i) = vx
            go_loopw [9, 13] (fun cv ci wr => ∃ k : Nat, k ≤ i ∧ ci = .int .i64 k ∧ Own w wr cv (n + 1 + j + k) (fillP zs j ((n : Int) * 8) i low k) ∧ Rd wr 1 (.slice la i lc) i ((lowB ((n : Int) * 8) i).map (Value.int .u8)) ∧ Apart wr (.slice la i lc) cv) (fun _ ci _ => (i - intOf ci).toNat)
            case atStart => exact ⟨0, by omega, rfl, by rw [HL.out]; exact HO3.out, HRL.out, HAP.out⟩
            case round =>
              obtain ⟨k, hk, rfl, hO, hR, hA⟩ := hrel
              obtain ⟨oa, oc, rfl⟩ := hO.any
              by_cases hlt2 : k < i
              · obtain ⟨g, off, hla, hg, hrow⟩ := (show ∃ g off, la = some ⟨g, off, none⟩ ∧ g < wr.heap.size ∧ Row wr g off ((lowB ((n : Int) * 8) i).map (Value.int .u8)) from by
                  obtain ⟨_, a', c', e, _, _, h4, h5⟩ := hR
                  cases e
                  cases la with
                  | none => have := (h4 rfl).1; omega
                  | some ad => obtain ⟨g, off, e2, e3, e4⟩ := h5 ad rfl (by omega); exact ⟨g, off, by rw [e2], e3, e4⟩)
                subst hla
                have c1 := hrow.int k (by omega)
                have c2 := hrow.int (i - 1 - k) (by omega)
                rw [HLG.out k hlt2] at c1
                rw [HLG.out (i - 1 - k) (by omega)] at c2
                first
                  | rw [show i - 1 - k = 7 - k by have := HL.out; omega] at c2
                  | rw [show i - 1 - k = 15 - k by have := HL.out; omega] at c2
                have HO := Lib.hid hO; have HR5 := Lib.hid hR; have HA := Lib.hid hA
                clear hO hR hA hrow
                first
                  | (have hk8 : (k : Int) < 8 := by have := HL.out; omega
                     have hk9 : (7 : Int) - k < i := by have := HL.out; omega
                     have hk7 : (0 : Int) ≤ 7 - k := by omega)
                  | (have hk8 : (k : Int) < 16 := by have := HL.out; omega
                     have hk9 : (15 : Int) - k < i := by have := HL.out; omega
                     have hk7 : (0 : Int) ≤ 15 - k := by omega)
                cases low
                · have HS := Lib.hid (fillP_high zs j ((n : Int) * 8) i k hlt2)
                  first
                    | rw [show i - 1 - k = 7 - k by have := HL.out; omega] at HS
                    | rw [show i - 1 - k = 15 - k by have := HL.out; omega] at HS
                  go_wp2_with (refine own_append1 rfl _ _ rfl HO.out rfl 1 _ _ rfl (by omega) ?_; clear HO; intro v1 w1 hO1 hG1; have HO := Lib.hid hO1; have HG1 := Lib.hid hG1; clear hO1 hG1)
                  go_roundw
                  case rel => exact ⟨k + 1, by omega, by go_num, by rw [← HS.out]; exact HO.out, HR5.out.grown HA.out HG1.out, HA.out.grown HG1.out⟩
                  case measure => simp [intOf]; omega
                · have HS := Lib.hid (fillP_low zs j ((n : Int) * 8) i k hlt2)
                  go_wp2_with (refine own_append1 rfl _ _ rfl HO.out rfl 1 _ _ rfl (by omega) ?_; clear HO; intro v1 w1 hO1 hG1; have HO := Lib.hid hO1; have HG1 := Lib.hid hG1; clear hO1 hG1)
                  go_roundw
                  case rel => exact ⟨k + 1, by omega, by go_num, by rw [← HS.out]; exact HO.out, HR5.out.grown HA.out HG1.out, HA.out.grown HG1.out⟩
                  case measure => simp [intOf]; omega
              · obtain rfl : k = i := by omega
                first
                  | (have hk8 : ¬ (k : Int) < 16 := by have := HL.out; omega)
                  | (have hk8 : ¬ (k : Int) < 8 := by have := HL.out; omega)
                have HO := Lib.hid hO
                clear hO hR hA
                go_wp2
                go_ret
                refine ⟨_, rfl, ?_⟩
                have := HO.out
                have hL := HL.out
                subst hL
                rw [HQ.out] at this
                simpa [Nat.add_assoc] using this
      · have hst' : ¬ _ := fun h => hjf (hst.1 h)
        first
          | (have hst2 : ((n : Int) + 1 + j) % 64 ≠ 56 := by omega)
          | (have hst2 : ((n : Int) + 1 + j) % 128 ≠ 112 := by omega)
        clear hst hst'
        go_wp2_with (refine own_append1 rfl _ _ rfl HO.out rfl 1 _ _ rfl (by omega) ?_; clear HO; intro v1 w1 hO1 hG1; have HO := Lib.hid hO1; clear hO1 hG1)
        go_roundw
        case rel => exact ⟨j + 1, by omega, by have := HO.out; simpa [List.replicate_succ', Nat.add_assoc] using this⟩
        case measure => obtain ⟨a', c', rfl⟩ := HO.out.any; simp [slLen]; omega
end Go.Proofs.YthfepfpmkckdnaaDoor
