/- Multiples of a point; the curve's prime is good; the formulas on numbers. No condition. | The base, its order, lifts, and the law of signatures. No condition. | Points in memory: three numbers side by side. No condition. | The reference's Plus, over letters. No condition. -/
import Derived.Test.YtlofddoojkeakaaDoorGB7
import Derived.Test.YtlofddoojkeakaaDoorGB3
import Derived.Test.YtlofddoojkeakaaDoorGB5
set_option linter.unusedSectionVars false
set_option linter.unusedVariables false
namespace Go.Proofs.YtlofddoojkeakaaDoor.Cv
set_option linter.unusedVariables false
set_option linter.unusedSimpArgs false
section
variable {n : Nat} [NeZero n]
theorem fpow_succ (a : Fin n) (k : Nat) : a ^ (k + 1) = a ^ k * a := rfl
/-- a number modulo n -/
def fof (n : Nat) [NeZero n] (x : Nat) : Fin n := Fin.ofNat n x
theorem fof_val (x : Nat) : (fof n x).val = x % n := rfl
theorem fof_eq {x y : Nat} : fof n x = fof n y ↔ x % n = y % n := ⟨fun h => congrArg Fin.val h, fun h => Fin.ext h⟩
theorem fof_self (a : Fin n) : fof n a.val = a := Fin.ext (Nat.mod_eq_of_lt a.isLt)
theorem fof_ex (a : Fin n) : ∃ x, a = fof n x := ⟨a.val, (fof_self a).symm⟩
theorem fof_num (k : Nat) : (OfNat.ofNat k : Fin n) = fof n k := rfl
theorem fof_zero : (0 : Fin n) = fof n 0 := rfl
theorem fof_one : (1 : Fin n) = fof n 1 := rfl
theorem fof_add (x y : Nat) : fof n x + fof n y = fof n (x + y) := Fin.ext (by rw [Fin.val_add, fof_val, fof_val, fof_val, ← Nat.add_mod])
theorem fof_mul (x y : Nat) : fof n x * fof n y = fof n (x * y) := Fin.ext (by rw [Fin.val_mul, fof_val, fof_val, fof_val, ← Nat.mul_mod])
theorem fof_pow (x : Nat) : ∀ k, fof n x ^ k = fof n (x ^ k)
  | 0 => rfl
  | k + 1 => by rw [fpow_succ, fof_pow x k, fof_mul, Nat.pow_succ]
theorem fof_z {x : Nat} : fof n x = 0 ↔ n ∣ x := by
  rw [fof_zero, fof_eq, Nat.zero_mod]
  exact ⟨Nat.dvd_of_mod_eq_zero, Nat.mod_eq_zero_of_dvd⟩
theorem fof_sub (x y : Nat) : fof n x - fof n y = fof n (x + (n - y % n)) := Fin.ext (by
  rw [Fin.val_sub, fof_val, fof_val, fof_val, Nat.add_mod (n - y % n), Nat.mod_mod, ← Nat.add_mod, Nat.add_comm])
theorem ffermat (hp : Prm n) (a : Fin n) (ha : a ≠ 0) : a * a ^ (n - 2) = 1 := by
  obtain ⟨x, rfl⟩ := fof_ex a
  have h2 := hp.1
  rw [fof_pow, fof_mul, fof_one, fof_eq, Nat.mul_comm, ← Nat.pow_succ, show (n - 2).succ = n - 1 by omega, fermat hp (fun h => ha (fof_z.2 h)), Nat.mod_eq_of_lt (by omega)]
theorem fnum_ne (k : Nat) (h0 : 0 < k) (h : k < n) : (OfNat.ofNat k : Fin n) ≠ 0 := fun e => by
  rw [fof_num, fof_z] at e
  exact absurd (Nat.le_of_dvd h0 e) (by omega)
theorem nocube_of {b e : Nat} (hp : Prm n) (he : n - 1 = 3 * e) (hb : fof n b + 7 = 0) (h7 : (7 : Fin n) ≠ 0) (hpm : pm n 256 b e ≠ 1) (h256 : e < 2 ^ 256) (x : Fin n) : x ^ 3 + 7 ≠ 0 := fun hx3 => by
  have hx : x ≠ 0 := fun h0 => by
    subst h0
    apply h7
    grobner
  have h3 : x ^ 3 = fof n b := by grobner
  obtain ⟨y, rfl⟩ := fof_ex x
  have h2 := hp.1
  have hf := fermat hp (fun h => hx (fof_z.2 h))
  apply hpm
  rw [pm_spec n 256 b e h256]
  rw [fof_pow, fof_eq] at h3
  rw [Nat.pow_mod, ← h3, ← Nat.pow_mod, ← Nat.pow_mul, ← he]
  exact hf
/-- a point so often -/
def mulP (P : Pt (Fin n)) : Nat → Pt (Fin n)
  | 0 => .inf
  | k + 1 => addP (mulP P k) P
theorem mul_on {P : Pt (Fin n)} (g : Good n) (h : P.on) : ∀ k, (mulP P k).on
  | 0 => trivial
  | k + 1 => add_on g (mul_on g h k) h
theorem mul_add {P : Pt (Fin n)} (g : Good n) (h : P.on) (a : Nat) : ∀ b, mulP P (a + b) = addP (mulP P a) (mulP P b)
  | 0 => (add_inf _).symm
  | b + 1 => by
    show addP (mulP P (a + b)) P = addP (mulP P a) (addP (mulP P b) P)
    rw [mul_add g h a b, add_assoc g (mul_on g h a) (mul_on g h b) h]
theorem mul_inf : ∀ k, mulP (.inf : Pt (Fin n)) k = .inf
  | 0 => rfl
  | k + 1 => by show addP (mulP .inf k) .inf = .inf; rw [mul_inf k]; rfl
theorem mul_mul {P : Pt (Fin n)} (g : Good n) (h : P.on) (a : Nat) : ∀ b, mulP P (a * b) = mulP (mulP P a) b
  | 0 => rfl
  | b + 1 => by
    rw [Nat.mul_succ, mul_add g h, mul_mul g h a b]; rfl
theorem mul_one (P : Pt (Fin n)) : mulP P 1 = P := inf_add P
/-- the sum by doubling and adding, from the top of 256 bits -/
def acc (P : Pt (Fin n)) (k : Nat) : Nat → Pt (Fin n)
  | 0 => .inf
  | m + 1 => if k / 2 ^ (255 - m) % 2 = 1 then addP (addP (acc P k m) (acc P k m)) P else addP (acc P k m) (acc P k m)
theorem acc_mul {P : Pt (Fin n)} (g : Good n) (h : P.on) (k : Nat) (hk : k < 2 ^ 256) : ∀ m, m ≤ 256 → acc P k m = mulP P (k / 2 ^ (256 - m))
  | 0, _ => by rw [Nat.sub_zero, Nat.div_eq_of_lt hk]; rfl
  | m + 1, hm => by
    have ih := acc_mul g h k hk m (by omega)
    have e : k / 2 ^ (256 - (m + 1)) = 2 * (k / 2 ^ (256 - m)) + k / 2 ^ (255 - m) % 2 := by
      rw [show 256 - (m + 1) = 255 - m by omega, show 256 - m = (255 - m) + 1 by omega, Nat.pow_succ, ← Nat.div_div_eq_div_mul]
      omega
    rw [acc, ih, e]
    generalize k / 2 ^ (256 - m) = q
    have hb : k / 2 ^ (255 - m) % 2 = 0 ∨ k / 2 ^ (255 - m) % 2 = 1 := by omega
    rcases hb with hb | hb
    · rw [hb, if_neg (by decide), Nat.two_mul, Nat.add_zero, mul_add g h]
    · rw [hb, if_pos rfl, Nat.two_mul, mul_add g h, mul_add g h, mul_one]
theorem acc_on {P : Pt (Fin n)} (g : Good n) (h : P.on) (k : Nat) : ∀ m, (acc P k m).on
  | 0 => trivial
  | m + 1 => by
    rw [acc]
    split
    · exact add_on g (add_on g (acc_on g h k m) (acc_on g h k m)) h
    · exact add_on g (acc_on g h k m) (acc_on g h k m)
end
/-- the field's prime -/
def PVn : Nat := 115792089237316195423570985008687907853269984665640564039457584007908834671663
instance : NeZero PVn := ⟨by decide⟩
theorem good_p : Good PVn where
  one_ne := fnum_ne 1 (by decide) (by decide)
  inv := fun a ha => ffermat p_prm a ha
  two := fnum_ne 2 (by decide) (by decide)
  three := fnum_ne 3 (by decide) (by decide)
  seven := fnum_ne 7 (by decide) (by decide)
  nocube := nocube_of (b := 115792089237316195423570985008687907853269984665640564039457584007908834671656) (e := 38597363079105398474523661669562635951089994888546854679819194669302944890554) p_prm (by decide +kernel) (by rw [fof_num, fof_add, fof_zero, fof_eq]; decide +kernel) (fnum_ne 7 (by decide) (by decide)) (by decide +kernel) (by decide +kernel)
/-- reckoning modulo p, on numbers -/
def fm (a b : Nat) : Nat := a * b % PVn
def fa (a b : Nat) : Nat := (a + b) % PVn
def fs (a b : Nat) : Nat := (a + (PVn - b % PVn)) % PVn
abbrev fp (x : Nat) : Fin PVn := fof PVn x
theorem p_pos : 0 < PVn := by decide
theorem fm_lt (a b : Nat) : fm a b < PVn := Nat.mod_lt _ p_pos
theorem fa_lt (a b : Nat) : fa a b < PVn := Nat.mod_lt _ p_pos
theorem fs_lt (a b : Nat) : fs a b < PVn := Nat.mod_lt _ p_pos
theorem fp_mod (x : Nat) : fp (x % PVn) = fp x := fof_eq.2 (Nat.mod_mod _ _)
theorem fp_fm (a b : Nat) : fp (fm a b) = fp a * fp b := by rw [fof_mul]; exact fp_mod _
theorem fp_fa (a b : Nat) : fp (fa a b) = fp a + fp b := by rw [fof_add]; exact fp_mod _
theorem fp_fs (a b : Nat) : fp (fs a b) = fp a - fp b := by rw [fof_sub]; exact fp_mod _
theorem fp_inj {a b : Nat} (ha : a < PVn) (hb : b < PVn) : fp a = fp b ↔ a = b := by
  rw [fof_eq, Nat.mod_eq_of_lt ha, Nat.mod_eq_of_lt hb]
theorem fp_z {a : Nat} (ha : a < PVn) : fp a = 0 ↔ a = 0 := by
  rw [fof_zero, fof_eq, Nat.mod_eq_of_lt ha]; exact Iff.rfl
/-- three numbers -/
structure J where
  x : Nat
  y : Nat
  z : Nat
def J.ok (a : J) : Prop := a.x < PVn ∧ a.y < PVn ∧ a.z < PVn
def J.jr (a : J) (P : Pt (Fin PVn)) : Prop := JR (fp a.x) (fp a.y) (fp a.z) P
def J.pr (a : J) (P : Pt (Fin PVn)) : Prop := PR (fp a.x) (fp a.y) (fp a.z) P
def dblJ (a : J) : J := if a.z = 0 then a else
  let yy := fm a.y a.y; let s0 := fm a.x yy; let s := fa (fa s0 s0) (fa s0 s0); let xx := fm a.x a.x; let m := fa (fa xx xx) xx; let x := fs (fm m m) (fa s s); let e0 := fm yy yy; let e := fa (fa e0 e0) (fa e0 e0); let z := fm a.y a.z
  ⟨x, fs (fm m (fs s x)) (fa e e), fa z z⟩
def addJ (a b : J) : J := if a.z = 0 then b else if b.z = 0 then a else
  let aa := fm a.z a.z; let bb := fm b.z b.z; let u := fm a.x bb; let v := fm b.x aa; let s := fm a.y (fm b.z bb); let t := fm b.y (fm a.z aa); let h := fs v u; let r := fs t s
  if h = 0 then (if r = 0 then dblJ a else ⟨0, 0, 0⟩) else
  let hh := fm h h; let hhh := fm h hh; let q := fm u hh; let x := fs (fs (fm r r) hhh) (fa q q)
  ⟨x, fs (fm r (fs q x)) (fm s hhh), fm h (fm a.z b.z)⟩
def timesJ (k : Nat) (a : J) : Nat → J
  | 0 => ⟨0, 0, 0⟩
  | m + 1 => if k / 2 ^ (255 - m) % 2 = 1 then addJ (dblJ (timesJ k a m)) a else dblJ (timesJ k a m)
theorem dblJ_ok {a : J} (h : a.ok) : (dblJ a).ok := by
  unfold dblJ
  split
  · exact h
  · exact ⟨fs_lt _ _, fs_lt _ _, fa_lt _ _⟩
theorem addJ_ok {a b : J} (h : a.ok) (h' : b.ok) : (addJ a b).ok := by
  unfold addJ
  split
  · exact h'
  split
  · exact h
  dsimp only
  split
  · split
    · exact dblJ_ok h
    · exact ⟨p_pos, p_pos, p_pos⟩
  · exact ⟨fs_lt _ _, fs_lt _ _, fm_lt _ _⟩
theorem timesJ_ok {a : J} (k : Nat) (h : a.ok) : ∀ m, (timesJ k a m).ok
  | 0 => ⟨p_pos, p_pos, p_pos⟩
  | m + 1 => by
    rw [timesJ]
    split
    · exact addJ_ok (dblJ_ok (timesJ_ok k h m)) h
    · exact dblJ_ok (timesJ_ok k h m)
theorem jr_z {a : J} {P : Pt (Fin PVn)} (h : a.ok) (hr : a.jr P) : a.z = 0 ↔ P = .inf := by
  cases P with
  | inf => exact ⟨fun _ => rfl, fun _ => (fp_z h.2.2).1 hr⟩
  | aff x y => exact ⟨fun e => absurd (by rw [e]; rfl) hr.1, fun e => by cases e⟩
theorem dblJ_jr {a : J} {P : Pt (Fin PVn)} (h : a.ok) (hP : P.on) (hr : a.jr P) : (dblJ a).jr (addP P P) := by
  unfold dblJ
  by_cases hz : a.z = 0
  · rw [if_pos hz]
    obtain rfl := (jr_z h hr).1 hz
    exact hr
  · rw [if_neg hz]
    cases P with
    | inf => exact absurd ((jr_z h hr).2 rfl) hz
    | aff x y =>
      have hj := jdbl good_p hP hr
      simp only [addP, if_pos]
      simp only [J.jr, fp_fs, fp_fa, fp_fm]
      exact hj
theorem addJ_jr {a b : J} {P Q : Pt (Fin PVn)} (h : a.ok) (h' : b.ok) (hP : P.on) (hQ : Q.on) (hr : a.jr P) (hr' : b.jr Q) : (addJ a b).jr (addP P Q) := by
  unfold addJ
  by_cases hz : a.z = 0
  · rw [if_pos hz]
    rw [(jr_z h hr).1 hz, inf_add]
    exact hr'
  rw [if_neg hz]
  by_cases hz' : b.z = 0
  · rw [if_pos hz']
    rw [(jr_z h' hr').1 hz', add_inf]
    exact hr
  rw [if_neg hz']
  cases P with
  | inf => exact absurd ((jr_z h hr).2 rfl) hz
  | aff x1 y1 => cases Q with
    | inf => exact absurd ((jr_z h' hr').2 rfl) hz'
    | aff x2 y2 =>
      obtain ⟨c1, c2⟩ := jcase good_p hr hr'
      have c1' : fs (fm b.x (fm a.z a.z)) (fm a.x (fm b.z b.z)) = 0 ↔ x1 = x2 := by
        rw [← fp_z (fs_lt _ _)]; simp only [fp_fs, fp_fm]; exact c1
      have c2' : fs (fm b.y (fm a.z (fm a.z a.z))) (fm a.y (fm b.z (fm b.z b.z))) = 0 ↔ y1 = y2 := by
        rw [← fp_z (fs_lt _ _)]; simp only [fp_fs, fp_fm]; exact c2
      dsimp only
      by_cases hx : x1 = x2
      · rw [if_pos (c1'.2 hx)]
        by_cases hy : y1 = y2
        · rw [if_pos (c2'.2 hy)]
          have hd := dblJ_jr h hP hr
          simp only [addP, if_pos] at hd
          simp only [addP, if_pos hx, if_pos hy]
          exact hd
        · rw [if_neg (fun e => hy (c2'.1 e))]
          simp only [addP, if_pos hx, if_neg hy]
          rfl
      · rw [if_neg (fun e => hx (c1'.1 e))]
        have hj := jadd good_p hr hr' hx
        simp only [addP, if_neg hx]
        simp only [J.jr, fp_fs, fp_fa, fp_fm]
        exact hj
theorem timesJ_jr {a : J} {P : Pt (Fin PVn)} (k : Nat) (h : a.ok) (hP : P.on) (hr : a.jr P) : ∀ m, (timesJ k a m).jr (acc P k m)
  | 0 => rfl
  | m + 1 => by
    have ih := timesJ_jr k h hP hr m
    have hon := acc_on good_p hP k m
    have hd := dblJ_jr (timesJ_ok k h m) hon ih
    rw [timesJ, acc]
    split
    · exact addJ_jr (dblJ_ok (timesJ_ok k h m)) h (add_on good_p hon hon) hP hd hr
    · exact hd
/-- a point's x and y -/
def xyP : Pt (Fin PVn) → Nat × Nat
  | .inf => (0, 0)
  | .aff x y => (x.val, y.val)
def fpow (a e : Nat) : Nat := pm PVn 256 a e
theorem fpow_eq {a e : Nat} (h : e < 2 ^ 256) : fpow a e = a ^ e % PVn := pm_spec _ _ _ _ h
theorem fp_fpow {a e : Nat} (h : e < 2 ^ 256) : fp (fpow a e) = fp a ^ e := by rw [fpow_eq h, fp_mod, fof_pow]
def fi (a : Nat) : Nat := fpow a (PVn - 2)
theorem fp_fi (a : Nat) : fp (fi a) = finv (fp a) := fp_fpow (e := PVn - 2) (by decide)
def flatJ (a : J) : Nat × Nat := (fm a.x (fm (fi a.z) (fi a.z)), fm a.y (fm (fi a.z) (fm (fi a.z) (fi a.z))))
theorem fp_val {a : Nat} (h : a < PVn) {x : Fin PVn} (e : fp a = x) : a = x.val := by rw [← e, fof_val, Nat.mod_eq_of_lt h]
theorem fi_zero : fi 0 = 0 := by decide +kernel
theorem flatJ_eq {a : J} {P : Pt (Fin PVn)} (h : a.ok) (hr : a.jr P) : flatJ a = xyP P := by
  cases P with
  | inf =>
    have hz := (jr_z h hr).2 rfl
    unfold flatJ
    rw [hz, fi_zero]
    simp [fm, xyP]
  | aff x y =>
    obtain ⟨h0, h1, h2⟩ := hr
    have hw := good_p.inv _ h0
    unfold flatJ xyP
    rw [Prod.mk.injEq]
    refine ⟨fp_val (fm_lt _ _) ?_, fp_val (fm_lt _ _) ?_⟩
    · rw [fp_fm, fp_fm, fp_fi, h1]
      generalize finv (fp a.z) = w at *
      generalize fp a.z = z at *
      clear h1 h2
      grobner
    · rw [fp_fm, fp_fm, fp_fm, fp_fi, h2]
      generalize finv (fp a.z) = w at *
      generalize fp a.z = z at *
      clear h1 h2
      grobner
end Go.Proofs.YtlofddoojkeakaaDoor.Cv
set_option linter.unusedSectionVars false
set_option linter.unusedVariables false
namespace Go.Proofs.YtlofddoojkeakaaDoor.Cv
set_option linter.unusedVariables false
set_option linter.unusedSimpArgs false
/-- (p + 1) / 4 -/
def QVn : Nat := 28948022309329048855892746252171976963317496166410141009864396001977208667916
theorem q_four : 4 * QVn = PVn + 1 := by decide
theorem sqrt_law {p q y : Nat} [NeZero p] (hp : Prm p) (h : 4 * q = p + 1) : fof p ((y * y) ^ q) * fof p ((y * y) ^ q) = fof p (y * y) := by
  rw [fof_mul, ← Nat.mul_pow, fof_eq]
  have e : (y * y * (y * y)) ^ q = y ^ p * y := by
    have e1 : y * y * (y * y) = y ^ 4 := by simp [Nat.pow_succ, Nat.mul_assoc]
    rw [e1, ← Nat.pow_mul, h, Nat.pow_succ]
  rw [e, Nat.mul_mod, fermat' hp, ← Nat.mul_mod]
def sqN (x : Nat) : Nat := fa (fm (fm x x) x) 7
/-- the y of an x: even, or odd -/
def liftN (x odd : Nat) : Option Nat :=
  let y := fpow (sqN x) QVn
  if fm y y = sqN x then some (if y % 2 = odd then y else (PVn - y) % PVn) else none
theorem fp_sqN (x : Nat) : fp (sqN x) = fp x * fp x * fp x + 7 := by
  unfold sqN
  rw [fp_fa, fp_fm, fp_fm]; rfl
theorem fpow_lt (a e : Nat) (h : e < 2 ^ 256) : fpow a e < PVn := by rw [fpow_eq h]; exact Nat.mod_lt _ p_pos
theorem fp_mul (a b : Nat) : fp (a * b) = fp a * fp b := (fof_mul a b).symm
theorem par {p r y : Nat} (h : p % 2 = 1) (hy : y < p) (h0 : y ≠ 0) (e : r = p - y) : (if r % 2 = y % 2 then r else (p - r) % p) = y := by
  rw [if_neg (by omega), e, Nat.sub_sub_self (by omega), Nat.mod_eq_of_lt hy]
theorem q_lt : QVn < 2 ^ 256 := by decide
theorem fp_negN {y : Nat} (h : y < PVn) : fp ((PVn - y) % PVn) = -fp y := by
  have e : fs 0 y = (PVn - y) % PVn := by unfold fs; rw [Nat.zero_add, Nat.mod_eq_of_lt h]
  rw [← e, fp_fs]
  have : fp 0 = 0 := rfl
  rw [this]
  generalize fp y = z
  grobner
theorem liftN_on {x o y : Nat} (h : liftN x o = some y) : On (fp x) (fp y) ∧ y < PVn := by
  unfold liftN at h
  dsimp only at h
  have hr := fpow_lt (sqN x) QVn q_lt
  generalize fpow (sqN x) QVn = r at h hr
  split at h
  · rename_i hs
    have hs2 := congrArg fp hs
    rw [fp_fm, fp_sqN] at hs2
    cases h
    split
    · refine ⟨?_, hr⟩
      unfold On
      clear hs hr
      grobner
    · refine ⟨?_, Nat.mod_lt _ p_pos⟩
      unfold On
      rw [fp_negN hr]
      clear hs hr
      grobner
  · cases h
theorem liftN_of {x y : Nat} (hx : x < PVn) (hy : y < PVn) (h : On (fp x) (fp y)) : liftN x (y % 2) = some y := by
  have hs : fp (sqN x) = fp (y * y) := by
    rw [fp_sqN, fp_mul]
    unfold On at h
    generalize fp x = a at *
    generalize fp y = b at *
    grobner
  have hr := fpow_lt (sqN x) QVn q_lt
  have hrv : fp (fpow (sqN x) QVn) = fp ((y * y) ^ QVn) := by
    rw [fp_fpow q_lt, hs, fof_pow]
  have h2 := sqrt_law (y := y) p_prm q_four
  unfold liftN
  dsimp only
  generalize fpow (sqN x) QVn = r at *
  have hrr : fp (fm r r) = fp (sqN x) := by
    rw [fp_fm, hrv, hs]; exact h2
  have hsl : sqN x < PVn := fa_lt _ _
  rw [if_pos ((fp_inj (fm_lt _ _) hsl).1 hrr)]
  congr 1
  have hpm : fp r = fp y ∨ fp r = -fp y := by
    rw [fp_fm, hs, fp_mul] at hrr
    have h0 : (fp r - fp y) * (fp r + fp y) = 0 := by
      generalize fp r = a at *
      generalize fp y = b at *
      grobner
    rcases zero_or good_p h0 with e | e
    · left
      generalize fp r = a at *
      generalize fp y = b at *
      grobner
    · right
      generalize fp r = a at *
      generalize fp y = b at *
      grobner
  rcases hpm with e | e
  · rw [fp_inj hr hy] at e
    subst e
    rw [if_pos rfl]
  · rw [← fp_negN hy, fp_inj hr (Nat.mod_lt _ p_pos)] at e
    by_cases hy0 : y = 0
    · subst hy0
      rw [Nat.sub_zero, Nat.mod_self] at e
      subst e
      rfl
    · have e2 : r = PVn - y := by rw [e, Nat.mod_eq_of_lt (by omega)]
      exact par (by decide) hy hy0 e2
/-- the base -/
def gxN : Nat := 55066263022277343669578718895168534326250603453777594175500187360389116729240
def gyN : Nat := 32670510020758816978083085130507043184471273380659243275938904335757337482424
def nVn : Nat := 115792089237316195423570985008687907852837564279074904382605163141518161494337
def gJ : J := ⟨gxN, gyN, 1⟩
def gP : Pt (Fin PVn) := .aff (fp gxN) (fp gyN)
theorem g_lift : liftN gxN 0 = some gyN := by decide +kernel
theorem g_on : gP.on := (liftN_on g_lift).1
theorem gJ_ok : gJ.ok := ⟨(by decide : gxN < PVn), (by decide : gyN < PVn), (by decide : 1 < PVn)⟩
theorem fp_one : fp 1 = 1 := rfl
theorem aff_jr {x y : Nat} : (J.mk x y 1).jr (.aff (fp x) (fp y)) := by
  refine ⟨?_, ?_, ?_⟩
  · show fp 1 ≠ 0
    rw [Ne, fp_z (by decide)]; decide
  · show fp x = fp x * (fp 1) ^ 2
    rw [fp_one]; generalize fp x = a; grobner
  · show fp y = fp y * (fp 1) ^ 3
    rw [fp_one]; generalize fp y = a; grobner
theorem gJ_jr : gJ.jr gP := aff_jr (x := gxN) (y := gyN)
theorem ng_z : (timesJ nVn gJ 256).z = 0 := by decide +kernel
theorem times_n {a : J} {P : Pt (Fin PVn)} {k : Nat} (h : a.ok) (hP : P.on) (hr : a.jr P) (hk : k < 2 ^ 256) : (timesJ k a 256).jr (mulP P k) := by
  have h1 := timesJ_jr k h hP hr 256
  rw [acc_mul good_p hP k hk 256 (Nat.le_refl _), Nat.sub_self, Nat.pow_zero, Nat.div_one] at h1
  exact h1
theorem inf_of {a : J} {P : Pt (Fin PVn)} {k : Nat} (h : a.ok) (hP : P.on) (hr : a.jr P) (hk : k < 2 ^ 256) (hz : (timesJ k a 256).z = 0) : mulP P k = .inf :=
  (jr_z (timesJ_ok k h 256) (times_n h hP hr hk)).1 hz
theorem n_lt : nVn < 2 ^ 256 := by decide
theorem ng : mulP gP nVn = .inf := inf_of gJ_ok g_on gJ_jr n_lt ng_z
theorem mul_inf_mul {k : Nat} (h : mulP gP k = .inf) (j : Nat) : mulP gP (k * j) = .inf := by
  rw [mul_mul good_p g_on, h, mul_inf]
theorem mul_gcd {a b : Nat} : mulP gP a = .inf → mulP gP b = .inf → mulP gP (Nat.gcd a b) = .inf := by
  induction a, b using Nat.gcd.induction with
  | H0 b => intro _ h; rw [Nat.gcd_zero_left]; exact h
  | H1 a b ha ih =>
    intro h1 h2
    rw [Nat.gcd_rec]
    refine ih ?_ h1
    have e := Nat.div_add_mod b a
    rw [← e, mul_add good_p g_on, mul_inf_mul h1, inf_add] at h2
    exact h2
theorem g_ne_inf : mulP gP 1 ≠ .inf := by rw [mul_one]; intro h; cases h
/-- a key has its point -/
theorem key_ne {k : Nat} (h0 : 0 < k) (h : k < nVn) : mulP gP k ≠ .inf := fun hk => by
  have hg := mul_gcd ng hk
  have hd := Nat.gcd_dvd_left nVn k
  rcases n_prm.2 _ hd with e | e
  · rw [e] at hg; exact g_ne_inf hg
  · have h2 := Nat.le_of_dvd h0 (Nat.gcd_dvd_right nVn k)
    rw [e] at h2
    exact absurd h (Nat.not_lt.2 h2)
theorem n_pos : 0 < nVn := by decide
theorem mul_mod (k : Nat) : mulP gP (k % nVn) = mulP gP k := by
  have e := Nat.div_add_mod k nVn
  conv => rhs; rw [← e, mul_add good_p g_on, mul_inf_mul ng, inf_add]
theorem mul_z {k : Nat} : mulP gP k = .inf ↔ k % nVn = 0 := by
  rw [← mul_mod k]
  constructor
  · intro h
    have hl := Nat.mod_lt k n_pos
    rcases Nat.eq_zero_or_pos (k % nVn) with e | e
    · exact e
    · exact absurd h (key_ne e hl)
  · intro h; rw [h]; rfl
theorem gmul_on (k : Nat) : (mulP gP k).on := mul_on good_p g_on k
instance : NeZero nVn := ⟨by decide⟩
/-- modulo n -/
abbrev fn (x : Nat) : Fin nVn := fof nVn x
end Go.Proofs.YtlofddoojkeakaaDoor.Cv
namespace Go.Proofs.YtlofddoojkeakaaDoor
set_option linter.unusedVariables false
set_option linter.unusedSimpArgs false
open Go Go.RowKit

theorem map_ne {k : IntKind} {C : List Int} {n : Nat} (h : C.length = n + 1) : C.map (Value.int k) ≠ [] := by
  intro e
  have := congrArg List.length e
  rw [List.length_map, h] at this
  cases this
theorem row3 {k : IntKind} {n : Nat} {X Y Z : List Int} (hx : X.length = n) (hy : Y.length = n) (hz : Z.length = n) {w : World} {g : Nat} (h : Row w g 0 ((X ++ Y ++ Z).map (Value.int k))) :
    Row w g 0 (X.map (Value.int k)) ∧ Row w g n (Y.map (Value.int k)) ∧ Row w g (n + n) (Z.map (Value.int k)) := by
  have h1 := h.take n
  have h2 := (h.drop n).take n
  have h3 := h.drop (n + n)
  refine ⟨?_, ?_, ?_⟩
  · have e : ((X ++ Y ++ Z).map (Value.int k)).take n = X.map (Value.int k) := by
      rw [← List.map_take, List.append_assoc, List.take_append_of_le_length (by omega), List.take_of_length_le (by omega)]
    rwa [e] at h1
  · have e : (((X ++ Y ++ Z).map (Value.int k)).drop n).take n = Y.map (Value.int k) := by
      rw [← List.map_drop, ← List.map_take, List.append_assoc, List.drop_append_of_le_length (by omega), List.drop_eq_nil_of_le (by omega), List.nil_append, List.take_append_of_le_length (by omega), List.take_of_length_le (by omega)]
    rw [e, Nat.zero_add] at h2
    exact h2
  · have e : ((X ++ Y ++ Z).map (Value.int k)).drop (n + n) = Z.map (Value.int k) := by
      have hl : (X ++ Y).length = n + n := by rw [List.length_append, hx, hy]
      rw [← List.map_drop, List.drop_append_of_le_length (by omega), List.drop_eq_nil_of_le (by omega), List.nil_append]
    rw [e, Nat.zero_add] at h3
    exact h3
theorem len3 {n : Nat} {X Y Z : List Int} (hx : X.length = n) (hy : Y.length = n) (hz : Z.length = n) : (X ++ Y ++ Z).length = n + n + n := by rw [List.length_append, List.length_append, hx, hy, hz]
theorem sz_cpt : (Tryd.prog.info? 76).map (·.size) = some 12 := by kernel_rfl
theorem list4 {L : List Int} (h : L.length = 4) : ∃ a b c d, L = [a, b, c, d] := by
  match L, h with
  | [a, b, c, d], _ => exact ⟨a, b, c, d, rfl⟩
theorem built_cpt {X Y Z : List Int} (hx : X.length = 4) (hy : Y.length = 4) (hz : Z.length = 4) :
    Tryd.prog.built 76 [(0, .agg (X.map (Value.int .u64)).toArray), (1, .agg (Y.map (Value.int .u64)).toArray), (2, .agg (Z.map (Value.int .u64)).toArray)] = some ((X ++ Y ++ Z).map (Value.int .u64)).toArray := by
  obtain ⟨a, b, c, d, rfl⟩ := list4 hx
  obtain ⟨a1, b1, c1, d1, rfl⟩ := list4 hy
  obtain ⟨a2, b2, c2, d2, rfl⟩ := list4 hz
  kernel_rfl
def zeros4 : List Value := [.int .u64 0, .int .u64 0, .int .u64 0, .int .u64 0]
theorem alloc_num {o : Oper} (hg : o.guard = none) (ho : o.op = .alloc 70) : AllocsAs Tryd.prog o zeros4 := ⟨hg, 70, fun a w => by
  unfold execOp
  simp only [ho]
  go_simp
  exact ⟨rfl, rfl⟩⟩
end Go.Proofs.YtlofddoojkeakaaDoor
