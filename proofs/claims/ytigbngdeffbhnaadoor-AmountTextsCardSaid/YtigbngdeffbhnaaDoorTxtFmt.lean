/- amount.Format: an amount as text. -/
import Derived.Test.YtigbngdeffbhnaaDoorTxtAwake
import Derived.Test.YtigbngdeffbhnaaDoorQTail
import Derived.Lib.QuietBelow
namespace Go.Proofs.YtigbngdeffbhnaaDoor
set_option linter.unusedVariables false
set_option linter.unusedSimpArgs false
open Go Go.RowKit

theorem rgB {f : FuncId} {args : Array Value} {W : World} {p : Regrown} {v : Value} (h : Calls Tryd.prog f args (Go.Sort.grow (redrawn W p.d) p.os) fun e w' => e = .returned v ∧ Keeps (Go.Sort.grow (redrawn W p.d) p.os) w') :
    Calls Tryd.prog f args (Go.Sort.grow (redrawn W p.d) p.os) fun e w'' => e = .returned v ∧ ∃ q : Regrown, w'' = Go.Sort.grow (redrawn W q.d) q.os := Calls.regrown_of h
theorem below_regrownB (W : World) (d : Nat) (os : Array Obj) : Keeps W (Go.Sort.grow (redrawn W d) os) := by
  have := below_regrown W d os
  exact this
/-- so many digits of a number, noughts ahead -/
def padR : Nat → Nat → List UInt8
  | _, 0 => []
  | r, k + 1 => padR (r / 10) k ++ [UInt8.ofNat (48 + r % 10)]
theorem padR_succ (r k : Nat) : padR r (k + 1) = padR (r / 10) k ++ [UInt8.ofNat (48 + r % 10)] := by rw [padR]
theorem padR_length : ∀ (k r : Nat), (padR r k).length = k
  | 0, r => by rw [padR]; rfl
  | k + 1, r => by rw [padR_succ, List.length_append, padR_length k]; rfl
theorem ofNat_digit (d : Nat) (h : d < 10) : isD (UInt8.ofNat (48 + d)) = true ∧ dv (UInt8.ofNat (48 + d)) = d ∧ UInt8.ofNat (48 + d) ≠ 46 ∧ (UInt8.ofNat (48 + d) = 48 → d = 0) := by
  have h2 : (UInt8.ofNat (48 + d)).toNat = 48 + d := by
    rw [UInt8.toNat_ofNat']
    omega
  refine ⟨isD_iff.2 (by omega), by unfold dv; omega, fun e => ?_, fun e => ?_⟩
  · rw [e] at h2
    have : (46 : UInt8).toNat = 46 := by decide
    omega
  · rw [e] at h2
    have : (48 : UInt8).toNat = 48 := by decide
    omega
theorem padR_digits (k : Nat) : ∀ r, (padR r k).all isD = true := by
  induction k with
  | zero => intro r; rw [padR]; rfl
  | succ k ih =>
    intro r
    rw [padR_succ, List.all_append, ih, List.all_cons, (ofNat_digit (r % 10) (by omega)).1]; rfl
theorem padR_num (k : Nat) : ∀ (a r : Nat), r < 10 ^ k → numF a (padR r k) = a * 10 ^ k + r := by
  induction k with
  | zero => intro a r h; have : r = 0 := by simpa using h
            subst this; rw [padR]; simp [numF]
  | succ k ih =>
    intro a r h
    have hr : r / 10 < 10 ^ k := by rw [Nat.pow_succ] at h; omega
    rw [padR_succ, numF_append, numF_cons, numF_nil, ih _ _ hr, (ofNat_digit (r % 10) (by omega)).2.1, Nat.pow_succ, ← Nat.mul_assoc]
    omega
theorem dec_small {u : Nat} (h : u < 10) : Lib.decDigits u = [UInt8.ofNat (48 + u)] := by rw [Lib.decDigits, dif_pos h]
theorem dec_big {u : Nat} (h : ¬ u < 10) : Lib.decDigits u = Lib.decDigits (u / 10) ++ [UInt8.ofNat (48 + u % 10)] := by rw [Lib.decDigits, dif_neg h]
theorem dec_base (k : Nat) : ∀ (a r : Nat), 1 ≤ a → r < 10 ^ k → Lib.decDigits (a * 10 ^ k + r) = Lib.decDigits a ++ padR r k := by
  induction k with
  | zero => intro a r _ h; have : r = 0 := by simpa using h
            subst this; rw [padR]; simp
  | succ k ih =>
    intro a r ha h
    have hr : r / 10 < 10 ^ k := by rw [Nat.pow_succ] at h; omega
    have hp : 1 ≤ a * 10 ^ k := Nat.mul_pos ha (Nat.pow_pos (by omega))
    have e : a * 10 ^ (k + 1) = a * 10 ^ k * 10 := by rw [Nat.pow_succ, Nat.mul_assoc]
    rw [e, dec_big (by omega), padR_succ, show (a * 10 ^ k * 10 + r) / 10 = a * 10 ^ k + r / 10 by omega, show (a * 10 ^ k * 10 + r) % 10 = r % 10 by omega, ih a _ ha hr, List.append_assoc]
/-- strong induction over a numeral -/
theorem dec_ind {p : Nat → Prop} (h0 : ∀ u, u < 10 → p u) (h1 : ∀ u, ¬ u < 10 → p (u / 10) → p u) (u : Nat) : p u := by
  induction u using Nat.strongRecOn with
  | ind u ih =>
    by_cases h : u < 10
    · exact h0 u h
    · exact h1 u h (ih (u / 10) (by omega))
theorem dec_digits (u : Nat) : (Lib.decDigits u).all isD = true := by
  refine dec_ind (p := fun u => (Lib.decDigits u).all isD = true) (fun u h => ?_) (fun u h ih => ?_) u
  · rw [dec_small h, List.all_cons, (ofNat_digit u h).1]; rfl
  · rw [dec_big h, List.all_append, ih, List.all_cons, (ofNat_digit (u % 10) (by omega)).1]; rfl
theorem dec_num (u : Nat) : numF 0 (Lib.decDigits u) = u := by
  refine dec_ind (p := fun u => numF 0 (Lib.decDigits u) = u) (fun u h => ?_) (fun u h ih => ?_) u
  · rw [dec_small h, numF_cons, numF_nil, (ofNat_digit u h).2.1]; omega
  · rw [dec_big h, numF_append, ih, numF_cons, numF_nil, (ofNat_digit (u % 10) (by omega)).2.1]; omega
theorem dec_ne (u : Nat) : Lib.decDigits u ≠ [] := by
  by_cases h : u < 10
  · rw [dec_small h]; simp
  · rw [dec_big h]; simp
theorem dec_head (u : Nat) : (Lib.decDigits u).getD 0 0 = 48 → u = 0 := by
  refine dec_ind (p := fun u => (Lib.decDigits u).getD 0 0 = 48 → u = 0) (fun u h => ?_) (fun u h ih => ?_) u
  · rw [dec_small h]; intro e; exact (ofNat_digit u h).2.2.2 (by simpa using e)
  · rw [dec_big h]
    intro e
    have hne := dec_ne (u / 10)
    have := ih (by
      cases hd : Lib.decDigits (u / 10) with
      | nil => exact absurd hd hne
      | cons x l => rw [hd] at e; simpa using e)
    omega
theorem dec_length (m : Nat) : ∀ u, u < 10 ^ (m + 1) → (Lib.decDigits u).length ≤ m + 1 := by
  induction m with
  | zero => intro u h; rw [dec_small (by simpa using h)]; simp
  | succ m ih =>
    intro u h
    by_cases h2 : u < 10
    · rw [dec_small h2]; simp
    · rw [dec_big h2, List.length_append]
      have := ih (u / 10) (by rw [Nat.pow_succ] at h; omega)
      simpa using this
/-- an amount as text: whole coins, a point, eight places -/
def fmtN (u : Nat) : List UInt8 := Lib.decDigits (u / 100000000) ++ 46 :: padR (u % 100000000) 8
def fmtL (v : Int) : List UInt8 := if validB v then fmtN v.toNat else [45]
theorem fmt_parse (u : Nat) (h : u ≤ 2100000000000000) : parV (fmtN u) = u ∧ parE (fmtN u) = 0 := by
  have hd := dec_digits (u / 100000000)
  have hno : ∀ x, x ∈ Lib.decDigits (u / 100000000) → x ≠ 46 := fun x hx e => by
    have := List.all_eq_true.1 hd x hx
    rw [e] at this
    exact absurd this (by decide)
  obtain ⟨e1, e2⟩ := split_parts (r := padR (u % 100000000) 8) hno
  have hlen := dec_length 7 (u / 100000000) (by omega)
  have hpl := padR_length 8 (u % 100000000)
  have hpd := padR_digits 8 (u % 100000000)
  have hbad : ¬ badL (Lib.decDigits (u / 100000000)) (46 :: padR (u % 100000000) 8) := by
    rintro (h | h | ⟨h1, h2⟩ | ⟨_, h | h | h⟩)
    · rw [hd] at h; cases h
    · exact dec_ne _ h
    · have := dec_head _ h1
      rw [this, dec_small (by omega)] at h2
      simp at h2
    · rw [List.tail_cons, hpd] at h; cases h
    · rw [List.tail_cons] at h; rw [h] at hpl; simp at hpl
    · rw [List.tail_cons] at h; omega
  have hval : valL (Lib.decDigits (u / 100000000)) (46 :: padR (u % 100000000) 8) = (u : Int) := by
    unfold valL
    rw [List.tail_cons, hpl, Nat.sub_self, List.replicate_zero, List.append_nil, numF_append, dec_num, padR_num 8 _ _ (by omega)]
    omega
  have hvb : validB (u : Int) = true := validB_true (by omega) (by omega)
  unfold parV parE parV' parE' fmtN
  rw [e1, e2, if_neg hbad, if_neg hbad, if_neg (by omega), if_neg (by omega), hval]
  simp [vV, vE, hvb]
set_option maxRecDepth 100000 in
set_option maxHeartbeats 4000000 in
theorem format_walk (v q x : Int) (hv : validB v = true) (h0 : 0 ≤ v) (h1 : v ≤ 2100000000000000) (S Q : ByteArray) (n : Nat) (hS : S.size = n + 8) (hn : n ≤ 20) (hQ : Q.size ≤ 20) (hx : v + 100000000 = x) (hq : v / 100000000 = q) (w : World)
    (hF1 : ∀ W, Keeps w W → Calls Tryd.prog 12 #[.int .i64 x, .int .i64 10] W fun e w' => e = .returned (.string S) ∧ Keeps W w')
    (hF2 : ∀ W, Keeps w W → Calls Tryd.prog 12 #[.int .i64 q, .int .i64 10] W fun e w' => e = .returned (.string Q) ∧ Keeps W w') :
    Calls Tryd.prog 5 #[.int .i64 v] w fun e w' => e = .returned (.string (Q ++ ⟨#[46]⟩ ++ S.extract n (n + 8))) ∧ Keeps w w' := by
  have HF1 := Lib.hid hF1; have HF2 := Lib.hid hF2
  clear hF1 hF2
  go_enter Tryd.func5, Tryd.ntmps5
  go_upto_region 5 with (first | (go_at_call 11; refine (valid_any _ _).mono ?_; rintro e w' ⟨rfl, rfl⟩) | (go_at_call 12; refine (HF1.out _ (Keeps.refl _)).mono ?_; rintro e w1 ⟨rfl, hk⟩; have HK1 := Lib.hid hk; clear hk))
  refine wp_region_quiet_below (by kernel_rfl) (by kernel_rfl) ?_
  repeat (first | go_big_quiet_skip | go_big_quiet_step (first | (go_at_call 12; exact rgB (HF2.out _ (HK1.out.trans (below_regrownB _ _ _))))) | quiet_step (first | (go_at_call 12; exact rgB (HF2.out _ (HK1.out.trans (below_regrownB _ _ _))))))
  refine wpQuiet_nil ?_
  intro _ hw'
  obtain ⟨⟨dq, osq⟩, hw''⟩ := hw'
  subst hw''
  have hkq := below_regrown w1 dq osq
  generalize Go.Sort.grow (redrawn w1 dq) osq = wq at *
  go_wp2
  go_ret
  exact ⟨rfl, HK1.out.trans hkq⟩
theorem fmt_i (u : Nat) (h : u ≤ 9223372036854775807) (w : World) (hp : PowTab w) :
    Calls Tryd.prog 12 #[.int .i64 (u : Int), .int .i64 10] w fun e w' => e = .returned (.string ⟨(Lib.decDigits u).toArray⟩) ∧ Keeps w w' := by
  have := fmt_10 (u : Int) (by omega) (by omega) w hp
  unfold Lib.itoa at this
  rwa [if_neg (by omega), Int.toNat_natCast] at this
theorem format_any (v : Int) (w : World) (hp : PowTab w) :
    Calls Tryd.prog 5 #[.int .i64 v] w fun e w' => e = .returned (.string ⟨(fmtL v).toArray⟩) ∧ Keeps w w' := by
  by_cases hv : validB v = true
  · obtain ⟨h0, h1⟩ := validB_of hv
    obtain ⟨u, rfl⟩ := Int.eq_ofNat_of_zero_le h0
    have hb := dec_base 8 (u / 100000000 + 1) (u % 100000000) (by omega) (by omega)
    have hu : (u / 100000000 + 1) * 10 ^ 8 + u % 100000000 = u + 100000000 := by omega
    rw [hu] at hb
    have hl1 := dec_length 7 (u / 100000000 + 1) (by omega)
    have hl2 := dec_length 7 (u / 100000000) (by omega)
    have hpl := padR_length 8 (u % 100000000)
    refine (format_walk (u : Int) ((u / 100000000 : Nat) : Int) ((u + 100000000 : Nat) : Int) hv h0 h1 ⟨(Lib.decDigits (u + 100000000)).toArray⟩ ⟨(Lib.decDigits (u / 100000000)).toArray⟩ (Lib.decDigits (u / 100000000 + 1)).length (by rw [ba_size, hb, List.length_append, hpl]) (by omega) (by rw [ba_size]; omega) (by omega) (by omega) w
      (fun W hk => fmt_i _ (by omega) W (hp.keeps hk)) (fun W hk => fmt_i _ (by omega) W (hp.keeps hk))).mono ?_
    rintro e w' ⟨rfl, hk⟩
    refine ⟨?_, hk⟩
    have hdr := ba_drop ⟨(Lib.decDigits (u + 100000000)).toArray⟩ (Lib.decDigits (u / 100000000 + 1)).length
    have hsz : (⟨(Lib.decDigits (u + 100000000)).toArray⟩ : ByteArray).size = (Lib.decDigits (u / 100000000 + 1)).length + 8 := by rw [ba_size, hb, List.length_append, hpl]
    rw [hsz] at hdr
    have hd2 : (Lib.decDigits (u + 100000000)).drop (Lib.decDigits (u / 100000000 + 1)).length = padR (u % 100000000) 8 := by rw [hb]; simp
    have hd3 : (⟨(Lib.decDigits (u + 100000000)).toArray⟩ : ByteArray).data.toList.drop (Lib.decDigits (u / 100000000 + 1)).length = padR (u % 100000000) 8 := hd2
    rw [hdr, hd3, show (⟨#[46]⟩ : ByteArray) = ⟨([46] : List UInt8).toArray⟩ from rfl, ba_append, ba_append]
    unfold fmtL fmtN
    rw [if_pos hv, Int.toNat_natCast]
    simp
  · have hv : validB v = false := by simpa using hv
    have HL := Lib.hid (show fmtL v = [45] by unfold fmtL; rw [hv]; rfl)
    go_enter Tryd.func5, Tryd.ntmps5
    go_wp2_with (go_at_call 11; refine (valid_any _ _).mono ?_; rintro e w' ⟨rfl, rfl⟩)
    go_ret
    exact ⟨by rw [HL.out]; rfl, Keeps.refl _⟩
end Go.Proofs.YtigbngdeffbhnaaDoor
