/- Prime numbers in plain Lean: Fermat's little theorem, Pocklington's test; the curve's two numbers are prime. No condition. | The curve's law over numbers modulo n, in plain Lean: points, sums, slopes. No condition. -/
namespace Go.Proofs.YtlofddoojkeakaaDoor
set_option linter.unusedVariables false
set_option linter.unusedSimpArgs false
def Prm (p : Nat) : Prop := 2 ≤ p ∧ ∀ d, d ∣ p → d = 1 ∨ d = p
theorem Prm.cop {p a : Nat} (h : Prm p) (ha : ¬ p ∣ a) : Nat.Coprime p a := by
  rcases h.2 (Nat.gcd p a) (Nat.gcd_dvd_left p a) with h1 | h1
  · exact h1
  · exact absurd (by rw [← h1]; exact Nat.gcd_dvd_right p a) ha
theorem Prm.euclid {p a b : Nat} (h : Prm p) (hd : p ∣ a * b) : p ∣ a ∨ p ∣ b := by
  by_cases ha : p ∣ a
  · exact .inl ha
  · exact .inr ((h.cop ha).dvd_of_dvd_mul_left hd)
theorem exists_prm : ∀ n : Nat, 2 ≤ n → ∃ r, Prm r ∧ r ∣ n := by
  intro n
  induction n using Nat.strongRecOn with
  | ind n ih =>
    intro hn
    by_cases h : ∃ d, d ∣ n ∧ d ≠ 1 ∧ d ≠ n
    · obtain ⟨d, hd, h1, h2⟩ := h
      have hle := Nat.le_of_dvd (by omega) hd
      have h0 : d ≠ 0 := by rintro rfl; have := Nat.eq_zero_of_zero_dvd hd; omega
      obtain ⟨r, hr, hrd⟩ := ih d (by omega) (by omega)
      exact ⟨r, hr, Nat.dvd_trans hrd hd⟩
    · refine ⟨n, ⟨hn, fun d hd => ?_⟩, Nat.dvd_refl n⟩
      by_cases h1 : d = 1
      · exact .inl h1
      · by_cases h2 : d = n
        · exact .inr h2
        · exact absurd ⟨d, hd, h1, h2⟩ h
/-- binomials -/
def ch : Nat → Nat → Nat
  | _, 0 => 1
  | 0, _ + 1 => 0
  | n + 1, k + 1 => ch n k + ch n (k + 1)
theorem ch_step (n k : Nat) : ch (n + 1) (k + 1) = ch n k + ch n (k + 1) := rfl
theorem ch_zero (n : Nat) : ch n 0 = 1 := by cases n <;> rfl
theorem ch_mul : ∀ n k, (n + 1) * ch n k = ch (n + 1) (k + 1) * (k + 1)
  | 0, 0 => rfl
  | 0, k + 1 => by simp [ch]
  | n + 1, 0 => by
    have := ch_mul n 0
    rw [ch_step, ch_zero] at this
    rw [ch_step (n + 1) 0, ch_zero, ch_step n 0, ch_zero]
    omega
  | n + 1, k + 1 => by
    have h1 := ch_mul n k
    have h2 := ch_mul n (k + 1)
    rw [ch_step (n + 1) (k + 1), ch_step n k]
    rw [ch_step] at h1
    generalize ch (n + 1) (k + 1 + 1) = z at *
    generalize ch n k = x at *
    generalize ch n (k + 1) = y at *
    grind
theorem ch_big : ∀ n k, n < k → ch n k = 0
  | 0, k + 1, _ => rfl
  | n + 1, k + 1, h => by rw [ch_step, ch_big n k (by omega), ch_big n (k + 1) (by omega)]
theorem ch_self : ∀ n, ch n n = 1
  | 0 => rfl
  | n + 1 => by rw [ch_step, ch_self n, ch_big n (n + 1) (by omega)]
def bsum (n a : Nat) : Nat → Nat
  | 0 => 0
  | m + 1 => bsum n a m + ch n m * a ^ m
theorem bsum_step (n a : Nat) : ∀ m, bsum (n + 1) a (m + 1) = bsum n a (m + 1) + a * bsum n a m
  | 0 => by simp [bsum, ch_zero]
  | m + 1 => by
    have h := bsum_step n a m
    rw [bsum, h, bsum, ch_step, bsum, bsum, Nat.pow_succ]
    generalize bsum n a m = s
    generalize a ^ m = t
    generalize ch n m = x
    generalize ch n (m + 1) = y
    grind
theorem binomial (a : Nat) : ∀ n, (a + 1) ^ n = bsum n a (n + 1)
  | 0 => by simp [bsum, ch]
  | n + 1 => by
    rw [bsum_step, bsum, ch_big n (n + 1) (by omega), ← binomial a n, Nat.pow_succ]
    generalize (a + 1) ^ n = s
    grind
theorem ch_dvd {p k : Nat} (hp : Prm p) (h0 : 0 < k) (h1 : k < p) : p ∣ ch p k := by
  obtain ⟨q, rfl⟩ : ∃ q, p = q + 1 := ⟨p - 1, by omega⟩
  obtain ⟨j, rfl⟩ : ∃ j, k = j + 1 := ⟨k - 1, by omega⟩
  have h := ch_mul q j
  rcases hp.euclid (a := ch (q + 1) (j + 1)) (b := j + 1) ⟨_, h.symm⟩ with h2 | h2
  · exact h2
  · have := Nat.le_of_dvd (by omega) h2
    omega
theorem bsum_mod {p : Nat} (hp : Prm p) (a : Nat) : ∀ m, m < p → bsum p a (m + 1) % p = 1
  | 0, _ => by
    have := hp.1
    simp [bsum, ch_zero]; exact Nat.mod_eq_of_lt (by omega)
  | m + 1, h => by
    obtain ⟨c, hc⟩ := ch_dvd hp (show 0 < m + 1 by omega) h
    rw [bsum, hc, Nat.mul_assoc, Nat.add_mul_mod_self_left]
    exact bsum_mod hp a m (by omega)
theorem freshman {p : Nat} (hp : Prm p) (a : Nat) : (a + 1) ^ p % p = (a ^ p + 1) % p := by
  have h2 := hp.1
  obtain ⟨q, rfl⟩ : ∃ q, p = q + 1 := ⟨p - 1, by omega⟩
  have h3 := bsum_mod hp a q (by omega)
  rw [binomial, bsum, ch_self, Nat.one_mul, ← Nat.mod_add_mod, h3, Nat.add_comm]
theorem fermat' {p : Nat} (hp : Prm p) : ∀ a, a ^ p % p = a % p
  | 0 => by
    have h2 := hp.1
    rw [Nat.zero_pow (by omega)]
  | a + 1 => by rw [freshman hp a, Nat.add_mod, fermat' hp a, ← Nat.add_mod]
theorem fermat {p a : Nat} (hp : Prm p) (ha : ¬ p ∣ a) : a ^ (p - 1) % p = 1 := by
  have h2 := hp.1
  have h := fermat' hp a
  obtain ⟨q, rfl⟩ : ∃ q, p = q + 1 := ⟨p - 1, by omega⟩
  rw [Nat.pow_succ] at h
  have ha0 : 0 < a := by
    rcases Nat.eq_zero_or_pos a with rfl | h
    · exact absurd (Nat.dvd_zero _) ha
    · exact h
  have h1 : 1 ≤ a ^ q := Nat.pow_pos ha0
  have hd : q + 1 ∣ a * (a ^ q - 1) := by
    rw [Nat.mul_sub, Nat.mul_one, Nat.mul_comm]
    exact Nat.dvd_of_mod_eq_zero (Nat.sub_mod_eq_zero_of_mod_eq h)
  rcases hp.euclid hd with h3 | h3
  · exact absurd h3 ha
  · obtain ⟨c, hc⟩ := h3
    have e : a ^ q = 1 + (q + 1) * c := by omega
    show a ^ q % (q + 1) = 1
    rw [e, Nat.add_mul_mod_self_left, Nat.mod_eq_of_lt (by omega)]
/-- powers modulo n, by squares -/
def pm (n : Nat) : Nat → Nat → Nat → Nat
  | 0, _, _ => 1 % n
  | f + 1, b, e => if e % 2 = 1 then b * pm n f (b * b % n) (e / 2) % n else pm n f (b * b % n) (e / 2)
theorem pow_mod' (a b n : Nat) : (a % n) ^ b % n = a ^ b % n := (Nat.pow_mod a b n).symm
theorem pm_spec (n : Nat) : ∀ f b e, e < 2 ^ f → pm n f b e = b ^ e % n
  | 0, b, e, h => by
    obtain rfl : e = 0 := by simpa using h
    rfl
  | f + 1, b, e, h => by
    have ih := pm_spec n f (b * b % n) (e / 2) (by rw [Nat.pow_succ] at h; omega)
    have e2 : (b * b % n) ^ (e / 2) % n = b ^ (2 * (e / 2)) % n := by
      rw [pow_mod', Nat.pow_mul, Nat.pow_two]
    unfold pm
    rw [ih, e2]
    split
    · next ho =>
      have : e = 2 * (e / 2) + 1 := by omega
      conv => rhs; rw [this, Nat.pow_succ, Nat.mul_comm]
      rw [Nat.mul_mod, Nat.mod_mod, ← Nat.mul_mod]
    · next ho =>
      have : e = 2 * (e / 2) := by omega
      conv => rhs; rw [this]
/-- the least exponent's law -/
theorem order_dvd {r b : Nat} (hr : 2 ≤ r) : ∀ (m n : Nat), b ^ m % r = 1 → b ^ n % r = 1 → b ^ (Nat.gcd m n) % r = 1 := by
  intro m
  induction m using Nat.strongRecOn with
  | ind m ih =>
    intro n hm hn
    by_cases h0 : m = 0
    · subst h0; rwa [Nat.gcd_zero_left]
    · rw [Nat.gcd_rec]
      refine ih (n % m) (Nat.mod_lt _ (by omega)) m ?_ hm
      have e : n = m * (n / m) + n % m := (Nat.div_add_mod n m).symm
      rw [e, Nat.pow_add, Nat.mul_mod, Nat.pow_mul, Nat.pow_mod, hm, Nat.one_pow, Nat.mod_eq_of_lt (show 1 < r by omega), Nat.one_mul, Nat.mod_mod] at hn
      exact hn
theorem pkey (N q k a : Nat) (hq : Prm q) (hN : N = k * q + 1) (h1 : pm N 256 a (k * q) = 1) (h2 : Nat.gcd (pm N 256 a k + (N - 1)) N = 1) (hlt : k * q < 2 ^ 256) (hk0 : 0 < k) : ∀ r, Prm r → r ∣ N → q ∣ r - 1 := by
  have hq2 := hq.1
  have hklt : k < 2 ^ 256 := Nat.lt_of_le_of_lt (Nat.le_mul_of_pos_right k (by omega)) hlt
  rw [pm_spec _ _ _ _ hlt] at h1
  rw [pm_spec _ _ _ _ hklt] at h2
  intro r hr hrN
  have hr2 := hr.1
  have hrle := Nat.le_of_dvd (by omega) hrN
  have m1 : a ^ (k * q) % r = 1 := by
    rw [← Nat.mod_mod_of_dvd _ hrN, h1, Nat.mod_eq_of_lt (by omega)]
  have hra : ¬ r ∣ a := by
    intro hd
    have : a ^ (k * q) % r = 0 := by
      have hkq : k * q ≠ 0 := by have := Nat.mul_pos hk0 (show 0 < q by omega); omega
      obtain ⟨j, hj⟩ : ∃ j, k * q = j + 1 := ⟨k * q - 1, by omega⟩
      rw [hj, Nat.pow_succ]
      exact Nat.mod_eq_zero_of_dvd (Nat.dvd_trans hd (Nat.dvd_mul_left _ _))
    omega
  have hf := fermat hr hra
  by_cases hd : q ∣ r - 1
  · exact hd
  · exfalso
    have hc : Nat.gcd q (r - 1) = 1 := hq.cop hd
    have b1 : (a ^ k) ^ q % r = 1 := by rw [← Nat.pow_mul]; exact m1
    have b2 : (a ^ k) ^ (r - 1) % r = 1 := by
      rw [← Nat.pow_mul, Nat.mul_comm, Nat.pow_mul, Nat.pow_mod, hf, Nat.one_pow, Nat.mod_eq_of_lt (by omega)]
    have b3 := order_dvd hr2 q (r - 1) b1 b2
    rw [hc, Nat.pow_one] at b3
    have b4 : (a ^ k % N + (N - 1)) % r = 0 := by
      have e1 : (a ^ k % N) % r = 1 := by rw [Nat.mod_mod_of_dvd _ hrN]; exact b3
      obtain ⟨c, hc⟩ := hrN
      have e2 : a ^ k % N = r * (a ^ k % N / r) + 1 := by
        have := Nat.div_add_mod (a ^ k % N) r
        omega
      have e3 : a ^ k % N + (N - 1) = r * (a ^ k % N / r) + r * c := by omega
      rw [e3, ← Nat.mul_add]
      exact Nat.mul_mod_right _ _
    have := Nat.dvd_gcd (Nat.dvd_of_mod_eq_zero b4) hrN
    rw [h2] at this
    have := Nat.le_of_dvd (by omega) this
    omega
theorem pboth (N F q : Nat) (hc : Nat.gcd F q = 1) (h1 : ∀ r, Prm r → r ∣ N → F ∣ r - 1) (h2 : ∀ r, Prm r → r ∣ N → q ∣ r - 1) : ∀ r, Prm r → r ∣ N → F * q ∣ r - 1 := fun r hr hd => by
  have hc' : Nat.Coprime F q := hc
  exact hc'.mul_dvd_of_dvd_of_dvd (h1 r hr hd) (h2 r hr hd)
theorem pend (N F : Nat) (hN2 : 2 ≤ N) (hsq : N < (F + 1) * (F + 1)) (h : ∀ r, Prm r → r ∣ N → F ∣ r - 1) : Prm N := by
  have key : ∀ r, Prm r → r ∣ N → F < r := by
    intro r hr hrN
    have hr2 := hr.1
    have := Nat.le_of_dvd (by omega) (h r hr hrN)
    omega
  refine ⟨hN2, fun d hd => ?_⟩
  by_cases e1 : d = 1
  · exact .inl e1
  · refine .inr ?_
    obtain ⟨s, hs⟩ := hd
    have hd0 : d ≠ 0 := by rintro rfl; omega
    by_cases e2 : s = 1
    · rw [hs, e2, Nat.mul_one]
    · exfalso
      have hs0 : s ≠ 0 := by rintro rfl; omega
      obtain ⟨r1, p1, d1⟩ := exists_prm d (by omega)
      obtain ⟨r2, p2, d2⟩ := exists_prm s (by omega)
      have k1 := key r1 p1 (Nat.dvd_trans d1 ⟨s, hs⟩)
      have k2 := key r2 p2 (Nat.dvd_trans d2 ⟨d, by rw [hs, Nat.mul_comm]⟩)
      have l1 := Nat.le_of_dvd (by omega) d1
      have l2 := Nat.le_of_dvd (by omega) d2
      have : (F + 1) * (F + 1) ≤ d * s := Nat.mul_le_mul (by omega) (by omega)
      omega
def smallB (n : Nat) : Bool := (List.range n).all fun d => d < 2 || n % d != 0
theorem small_prm (n : Nat) (h2 : 2 ≤ n) (h : smallB n = true) : Prm n := by
  refine ⟨h2, fun d hd => ?_⟩
  have hle := Nat.le_of_dvd (by omega) hd
  have h0 : d ≠ 0 := by rintro rfl; have := Nat.eq_zero_of_zero_dvd hd; omega
  by_cases e1 : d = 1
  · exact .inl e1
  · by_cases e2 : d = n
    · exact .inr e2
    · have := List.all_eq_true.1 h d (List.mem_range.2 (by omega))
      have hm := Nat.mod_eq_zero_of_dvd hd
      simp [hm] at this
      omega
theorem prm0 : Prm 53 := small_prm 53 (by decide) (by decide +kernel)
theorem prm1 : Prm 29 := small_prm 29 (by decide) (by decide +kernel)
theorem prm2 : Prm 7 := small_prm 7 (by decide) (by decide +kernel)
theorem prm3 : Prm 107590001 := pend 107590001 10759 (by decide +kernel) (by decide +kernel) (pboth 107590001 1537 7 (by decide +kernel) (pboth 107590001 53 29 (by decide +kernel) (pkey 107590001 53 2030000 2 prm0 (by decide +kernel) (by decide +kernel) (by decide +kernel) (by decide +kernel) (by decide +kernel)) (pkey 107590001 29 3710000 2 prm1 (by decide +kernel) (by decide +kernel) (by decide +kernel) (by decide +kernel) (by decide +kernel))) (pkey 107590001 7 15370000 2 prm2 (by decide +kernel) (by decide +kernel) (by decide +kernel) (by decide +kernel) (by decide +kernel)))
theorem prm4 : Prm 419 := small_prm 419 (by decide) (by decide +kernel)
theorem prm5 : Prm 20113 := pend 20113 419 (by decide +kernel) (by decide +kernel) (pkey 20113 419 48 2 prm4 (by decide +kernel) (by decide +kernel) (by decide +kernel) (by decide +kernel) (by decide +kernel))
theorem prm6 : Prm 1206781 := pend 1206781 20113 (by decide +kernel) (by decide +kernel) (pkey 1206781 20113 60 2 prm5 (by decide +kernel) (by decide +kernel) (by decide +kernel) (by decide +kernel) (by decide +kernel))
theorem prm7 : Prm 7240687 := pend 7240687 1206781 (by decide +kernel) (by decide +kernel) (pkey 7240687 1206781 6 2 prm6 (by decide +kernel) (by decide +kernel) (by decide +kernel) (by decide +kernel) (by decide +kernel))
theorem prm8 : Prm 239 := small_prm 239 (by decide) (by decide +kernel)
theorem prm9 : Prm 101 := small_prm 101 (by decide) (by decide +kernel)
theorem prm10 : Prm 96557 := pend 96557 24139 (by decide +kernel) (by decide +kernel) (pboth 96557 239 101 (by decide +kernel) (pkey 96557 239 404 2 prm8 (by decide +kernel) (by decide +kernel) (by decide +kernel) (by decide +kernel) (by decide +kernel)) (pkey 96557 101 956 2 prm9 (by decide +kernel) (by decide +kernel) (by decide +kernel) (by decide +kernel) (by decide +kernel)))
theorem prm11 : Prm 255515944373312847190720520512484175977 := pend 255515944373312847190720520512484175977 75220367286300824659 (by decide +kernel) (by decide +kernel) (pboth 255515944373312847190720520512484175977 779025521570687 96557 (by decide +kernel) (pboth 255515944373312847190720520512484175977 107590001 7240687 (by decide +kernel) (pkey 255515944373312847190720520512484175977 107590001 2374904191824599455024826335976 2 prm3 (by decide +kernel) (by decide +kernel) (by decide +kernel) (by decide +kernel) (by decide +kernel)) (pkey 255515944373312847190720520512484175977 7240687 35288908963101546467996824129048 2 prm7 (by decide +kernel) (by decide +kernel) (by decide +kernel) (by decide +kernel) (by decide +kernel))) (pkey 255515944373312847190720520512484175977 96557 2646270538369179315748423423599368 2 prm10 (by decide +kernel) (by decide +kernel) (by decide +kernel) (by decide +kernel) (by decide +kernel)))
theorem prm12 : Prm 205115282021455665897114700593932402728804164701536103180137503955397371 := pend 205115282021455665897114700593932402728804164701536103180137503955397371 255515944373312847190720520512484175977 (by decide +kernel) (by decide +kernel) (pkey 205115282021455665897114700593932402728804164701536103180137503955397371 255515944373312847190720520512484175977 802749442992798076634733441528810 2 prm11 (by decide +kernel) (by decide +kernel) (by decide +kernel) (by decide +kernel) (by decide +kernel))
theorem prm13 : Prm 115792089237316195423570985008687907853269984665640564039457584007908834671663 := pend 115792089237316195423570985008687907853269984665640564039457584007908834671663 205115282021455665897114700593932402728804164701536103180137503955397371 (by decide +kernel) (by decide +kernel) (pkey 115792089237316195423570985008687907853269984665640564039457584007908834671663 205115282021455665897114700593932402728804164701536103180137503955397371 564522 2 prm12 (by decide +kernel) (by decide +kernel) (by decide +kernel) (by decide +kernel) (by decide +kernel))
theorem prm14 : Prm 1871 := small_prm 1871 (by decide) (by decide +kernel)
theorem prm15 : Prm 1627771 := pend 1627771 1871 (by decide +kernel) (by decide +kernel) (pkey 1627771 1871 870 2 prm14 (by decide +kernel) (by decide +kernel) (by decide +kernel) (by decide +kernel) (by decide +kernel))
theorem prm16 : Prm 297159362677 := pend 297159362677 1627771 (by decide +kernel) (by decide +kernel) (pkey 297159362677 1627771 182556 2 prm15 (by decide +kernel) (by decide +kernel) (by decide +kernel) (by decide +kernel) (by decide +kernel))
theorem prm17 : Prm 1409 := small_prm 1409 (by decide) (by decide +kernel)
theorem prm18 : Prm 28181 := pend 28181 1409 (by decide +kernel) (by decide +kernel) (pkey 28181 1409 20 2 prm17 (by decide +kernel) (by decide +kernel) (by decide +kernel) (by decide +kernel) (by decide +kernel))
theorem prm19 : Prm 545358713 := pend 545358713 28181 (by decide +kernel) (by decide +kernel) (pkey 545358713 28181 19352 2 prm18 (by decide +kernel) (by decide +kernel) (by decide +kernel) (by decide +kernel) (by decide +kernel))
theorem prm20 : Prm 29047611873442575647497758179 := pend 29047611873442575647497758179 162058447585428954701 (by decide +kernel) (by decide +kernel) (pboth 29047611873442575647497758179 297159362677 545358713 (by decide +kernel) (pkey 29047611873442575647497758179 297159362677 97750956294169114 2 prm16 (by decide +kernel) (by decide +kernel) (by decide +kernel) (by decide +kernel) (by decide +kernel)) (pkey 29047611873442575647497758179 545358713 53263313083699784306 2 prm19 (by decide +kernel) (by decide +kernel) (by decide +kernel) (by decide +kernel) (by decide +kernel)))
theorem prm21 : Prm 341948486974166000522343609283189 := pend 341948486974166000522343609283189 29047611873442575647497758179 (by decide +kernel) (by decide +kernel) (pkey 341948486974166000522343609283189 29047611873442575647497758179 11772 2 prm20 (by decide +kernel) (by decide +kernel) (by decide +kernel) (by decide +kernel) (by decide +kernel))
theorem prm22 : Prm 41 := small_prm 41 (by decide) (by decide +kernel)
theorem prm23 : Prm 19 := small_prm 19 (by decide) (by decide +kernel)
theorem prm24 : Prm 9349 := pend 9349 779 (by decide +kernel) (by decide +kernel) (pboth 9349 41 19 (by decide +kernel) (pkey 9349 41 228 2 prm22 (by decide +kernel) (by decide +kernel) (by decide +kernel) (by decide +kernel) (by decide +kernel)) (pkey 9349 19 492 2 prm23 (by decide +kernel) (by decide +kernel) (by decide +kernel) (by decide +kernel) (by decide +kernel)))
theorem prm25 : Prm 44706919 := pend 44706919 9349 (by decide +kernel) (by decide +kernel) (pkey 44706919 9349 4782 2 prm24 (by decide +kernel) (by decide +kernel) (by decide +kernel) (by decide +kernel) (by decide +kernel))
theorem prm26 : Prm 113 := small_prm 113 (by decide) (by decide +kernel)
theorem prm27 : Prm 120233 := pend 120233 2147 (by decide +kernel) (by decide +kernel) (pboth 120233 113 19 (by decide +kernel) (pkey 120233 113 1064 2 prm26 (by decide +kernel) (by decide +kernel) (by decide +kernel) (by decide +kernel) (by decide +kernel)) (pkey 120233 19 6328 2 prm23 (by decide +kernel) (by decide +kernel) (by decide +kernel) (by decide +kernel) (by decide +kernel)))
theorem prm28 : Prm 174723607534414371449 := pend 174723607534414371449 5375246992127 (by decide +kernel) (by decide +kernel) (pboth 174723607534414371449 44706919 120233 (by decide +kernel) (pkey 174723607534414371449 44706919 3908200597192 2 prm25 (by decide +kernel) (by decide +kernel) (by decide +kernel) (by decide +kernel) (by decide +kernel)) (pkey 174723607534414371449 120233 1453208416444856 2 prm27 (by decide +kernel) (by decide +kernel) (by decide +kernel) (by decide +kernel) (by decide +kernel)))
theorem prm29 : Prm 115792089237316195423570985008687907852837564279074904382605163141518161494337 := pend 115792089237316195423570985008687907852837564279074904382605163141518161494337 59746473235060985162263246577491932178200490877270861 (by decide +kernel) (by decide +kernel) (pboth 115792089237316195423570985008687907852837564279074904382605163141518161494337 341948486974166000522343609283189 174723607534414371449 (by decide +kernel) (pkey 115792089237316195423570985008687907852837564279074904382605163141518161494337 341948486974166000522343609283189 338624364920977752681389262317185522840540224 2 prm21 (by decide +kernel) (by decide +kernel) (by decide +kernel) (by decide +kernel) (by decide +kernel)) (pkey 115792089237316195423570985008687907852837564279074904382605163141518161494337 174723607534414371449 662715765037699607481235088557493206623080876315205958464 2 prm28 (by decide +kernel) (by decide +kernel) (by decide +kernel) (by decide +kernel) (by decide +kernel)))
theorem p_prm : Prm 115792089237316195423570985008687907853269984665640564039457584007908834671663 := prm13
theorem n_prm : Prm 115792089237316195423570985008687907852837564279074904382605163141518161494337 := prm29
end Go.Proofs.YtlofddoojkeakaaDoor
set_option linter.unusedSectionVars false
set_option linter.unusedVariables false
namespace Go.Proofs.YtlofddoojkeakaaDoor.Cv
set_option linter.unusedVariables false
set_option linter.unusedSimpArgs false
inductive Pt (F : Type) where
  | inf
  | aff (x y : F)
section
variable {n : Nat} [NeZero n]
/-- an inverse, by Fermat -/
def finv (a : Fin n) : Fin n := a ^ (n - 2)
def On (x y : Fin n) : Prop := y^2 = x^3 + 7
def Pt.on : Pt (Fin n) → Prop
  | .inf => True
  | .aff x y => On x y
def dblX (x y : Fin n) : Fin n := (3*x^2 * finv (2*y))^2 - 2*x
def dblY (x y : Fin n) : Fin n := (3*x^2 * finv (2*y))*(x - dblX x y) - y
def chX (x1 y1 x2 y2 : Fin n) : Fin n := ((y2-y1)*finv (x2-x1))^2 - x1 - x2
def chY (x1 y1 x2 y2 : Fin n) : Fin n := ((y2-y1)*finv (x2-x1))*(x1 - chX x1 y1 x2 y2) - y1
def addP : Pt (Fin n) → Pt (Fin n) → Pt (Fin n)
  | .inf, q => q
  | .aff x y, .inf => .aff x y
  | .aff x1 y1, .aff x2 y2 => if x1 = x2 then (if y1 = y2 then .aff (dblX x1 y1) (dblY x1 y1) else .inf) else .aff (chX x1 y1 x2 y2) (chY x1 y1 x2 y2)
structure Good (n : Nat) [NeZero n] : Prop where
  one_ne : (1 : Fin n) ≠ 0
  inv : ∀ a : Fin n, a ≠ 0 → a * finv a = 1
  two : (2 : Fin n) ≠ 0
  three : (3 : Fin n) ≠ 0
  seven : (7 : Fin n) ≠ 0
  nocube : ∀ x : Fin n, x^3 + 7 ≠ 0
theorem eq_of (g : Good n) {a b : Fin n} (h : ∀ w, (a - b)*w = 1 → (1 : Fin n) = 0) : a = b := by
  by_cases e : a - b = 0
  · grobner
  · exact absurd (h _ (g.inv _ e)) g.one_ne
theorem ne_of (g : Good n) {a : Fin n} (h : a = 0 → (1 : Fin n) = 0) : a ≠ 0 := fun e => g.one_ne (h e)
theorem mul_ne (g : Good n) {a b : Fin n} (ha : a ≠ 0) (hb : b ≠ 0) : a * b ≠ 0 := by
  have h1 := g.inv a ha
  have h2 := g.inv b hb
  refine ne_of g fun e => ?_
  grobner
theorem sq_ne (g : Good n) {a : Fin n} (ha : a ≠ 0) : a^2 ≠ 0 := fun e => mul_ne g ha ha (by grobner)
theorem cube_ne (g : Good n) {a : Fin n} (ha : a ≠ 0) : a^3 ≠ 0 := fun e => mul_ne g (mul_ne g ha ha) ha (by grobner)
theorem zero_or (g : Good n) {a b : Fin n} (h : a * b = 0) : a = 0 ∨ b = 0 := by
  by_cases ha : a = 0
  · exact .inl ha
  · exact .inr (Classical.byContradiction fun hb => mul_ne g ha hb h)
theorem sub_ne {a b : Fin n} (h : a ≠ b) : b - a ≠ 0 := fun e => h (by grobner)
theorem y_ne {x y : Fin n} (g : Good n) (h : On x y) : y ≠ 0 := by
  intro e
  apply g.nocube x
  unfold On at h
  grobner
theorem dbl_on {x y : Fin n} (g : Good n) (h : On x y) : On (dblX x y) (dblY x y) := by
  have hu := g.inv _ (mul_ne g g.two (y_ne g h))
  unfold On at *
  unfold dblY dblX
  generalize finv (2*y) = u at *
  refine eq_of g fun w hw => ?_
  grobner
theorem ch_on {x1 y1 x2 y2 : Fin n} (g : Good n) (h1 : On x1 y1) (h2 : On x2 y2) (hx : x1 ≠ x2) : On (chX x1 y1 x2 y2) (chY x1 y1 x2 y2) := by
  have hu := g.inv _ (sub_ne hx)
  unfold On at *
  unfold chY chX
  generalize finv (x2-x1) = u at *
  refine eq_of g fun w hw => ?_
  grobner
theorem add_on {P Q : Pt (Fin n)} (g : Good n) (hP : P.on) (hQ : Q.on) : (addP P Q).on := by
  cases P with
  | inf => exact hQ
  | aff x1 y1 => cases Q with
    | inf => exact hP
    | aff x2 y2 =>
      simp only [addP]
      split
      · split
        · exact dbl_on g hP
        · trivial
      · rename_i h; exact ch_on g hP hQ h
/-- a triple that stands for a point: x/z^2, y/z^3 -/
def JR (X Y Z : Fin n) : Pt (Fin n) → Prop
  | .inf => Z = 0
  | .aff x y => Z ≠ 0 ∧ X = x * Z^2 ∧ Y = y * Z^3
/-- .. or x/z, y/z -/
def PR (X Y Z : Fin n) : Pt (Fin n) → Prop
  | .inf => X = 0 ∧ Y ≠ 0 ∧ Z = 0
  | .aff x y => Z ≠ 0 ∧ X = x * Z ∧ Y = y * Z
theorem jdbl {X Y Z x y : Fin n} (g : Good n) (h : On x y) (hr : JR X Y Z (.aff x y)) :
    let yy := Y*Y; let s0 := X*yy; let s := (s0+s0)+(s0+s0); let xx := X*X; let m := (xx+xx)+xx; let x3 := m*m - (s+s); let e0 := yy*yy; let e := (e0+e0)+(e0+e0); let z := Y*Z
    JR x3 (m*(s - x3) - (e+e)) (z+z) (.aff (dblX x y) (dblY x y)) := by
  obtain ⟨hz, rfl, rfl⟩ := hr
  have hy := y_ne g h
  have hzz := mul_ne g (mul_ne g g.two hy) (mul_ne g (sq_ne g hz) (sq_ne g hz))
  have hu := g.inv _ (mul_ne g g.two hy)
  intro yy s0 s xx m x3 e0 e z
  unfold dblY dblX
  generalize finv (2*y) = u at *
  refine ⟨fun e => hzz (by grobner), eq_of g fun w hw => ?_, eq_of g fun w hw => ?_⟩
  · grobner
  · grobner
theorem jadd {X1 Y1 Z1 X2 Y2 Z2 x1 y1 x2 y2 : Fin n} (g : Good n) (hr1 : JR X1 Y1 Z1 (.aff x1 y1)) (hr2 : JR X2 Y2 Z2 (.aff x2 y2)) (hx : x1 ≠ x2) :
    let aa := Z1*Z1; let bb := Z2*Z2; let u := X1*bb; let v := X2*aa; let s := Y1*(Z2*bb); let t := Y2*(Z1*aa); let h := v-u; let r := t-s; let hh := h*h; let hhh := h*hh; let q := u*hh; let x3 := (r*r - hhh) - (q+q)
    JR x3 (r*(q - x3) - s*hhh) (h*(Z1*Z2)) (.aff (chX x1 y1 x2 y2) (chY x1 y1 x2 y2)) := by
  obtain ⟨hz1, rfl, rfl⟩ := hr1
  obtain ⟨hz2, rfl, rfl⟩ := hr2
  have hzz := mul_ne g (sub_ne hx) (mul_ne g (cube_ne g hz1) (cube_ne g hz2))
  have hu := g.inv _ (sub_ne hx)
  intro aa bb u v s t h r hh hhh q x3
  unfold chY chX
  generalize finv (x2-x1) = i at *
  refine ⟨fun e => hzz (by grobner), eq_of g fun w hw => ?_, eq_of g fun w hw => ?_⟩
  · grobner
  · grobner
/-- .. and one triple more: no two sums are their own reflection -/
theorem bs {x1 y1 x2 y2 x3 y3 l m : Fin n} (g : Good n)
   (hl : l * (x2-x1) = y2-y1) (hm : m * (x3-x2) = y3-y2)
   (ha : x3 = l^2-x1-x2) (hb : y3 = l*(x1-x3)-y1) (hc : x1 = m^2-x2-x3) (hd : y1 = m*(x2-x1)-y2) (hy1 : y1 ≠ 0) (hy2 : y2 ≠ 0) : False := by
  have e1 : 2*y2 + (l+m)*(x1-x2) = 0 := by grobner
  have e2 : 2*y2 + (l+m)*(x3-x2) = 0 := by grobner
  have h2 := mul_ne g g.two hy2
  have hlm : l + m ≠ 0 := fun e => h2 (by grobner)
  have h13 : x1 - x3 = 0 := by
    rcases zero_or g (show (l+m)*(x1-x3) = 0 by grobner) with h | h
    · exact absurd h hlm
    · exact h
  have hlm2 : l - m = 0 := by
    rcases zero_or g (show (l+m)*(l-m) = 0 by grobner) with h | h
    · exact absurd h hlm
    · exact h
  exact mul_ne g g.two hy1 (by grobner)
/-- the slope of a line through two points of the curve, or of the tangent -/
structure Slope (x1 y1 x2 y2 l : Fin n) : Prop where
  dif : l * (x2-x1) = y2-y1
  sum : l*(y1+y2) = x1^2+x1*x2+x2^2
def negP : Pt (Fin n) → Pt (Fin n)
  | .inf => .inf
  | .aff x y => .aff x (-y)
theorem neg_on {P : Pt (Fin n)} (h : P.on) : (negP P).on := by
  cases P with
  | inf => trivial
  | aff x y => show On x (-y); unfold Pt.on On at *; grobner
theorem nn (y : Fin n) : - -y = y := by grobner
theorem neg_neg (P : Pt (Fin n)) : negP (negP P) = P := by
  cases P with
  | inf => rfl
  | aff x y => simp only [negP, nn]
theorem same_x {x y1 y2 : Fin n} (g : Good n) (h1 : On x y1) (h2 : On x y2) : y1 = y2 ∨ y1 = -y2 := by
  unfold On at *
  rcases zero_or g (show (y1 - y2)*(y1+y2) = 0 by grobner) with h | h
  · exact .inl (by grobner)
  · exact .inr (by grobner)
theorem slope_ex {x1 y1 x2 y2 : Fin n} (g : Good n) (h1 : On x1 y1) (h2 : On x2 y2) (hn : ¬ (x1 = x2 ∧ y1 = -y2)) : ∃ l, Slope x1 y1 x2 y2 l := by
  by_cases hx : x1 = x2
  · subst hx
    rcases same_x g h1 h2 with hy | hy
    · subst hy
      have hu := g.inv _ (mul_ne g g.two (y_ne g h1))
      refine ⟨3*x1^2*finv (2*y1), by grobner, ?_⟩
      generalize finv (2*y1) = u at *
      grobner
    · exact absurd ⟨rfl, hy⟩ hn
  · have hu := g.inv _ (sub_ne hx)
    refine ⟨(y2-y1)*finv (x2-x1), ?_, ?_⟩
    · generalize finv (x2-x1) = u at *
      grobner
    · unfold On at *
      generalize finv (x2-x1) = u at *
      refine eq_of g fun w hw => ?_
      grobner
theorem add_slope {x1 y1 x2 y2 l : Fin n} (g : Good n) (h1 : On x1 y1) (h2 : On x2 y2) (hn : ¬ (x1 = x2 ∧ y1 = -y2)) (s : Slope x1 y1 x2 y2 l) :
    addP (.aff x1 y1) (.aff x2 y2) = .aff (l^2-x1-x2) (l*(x1-(l^2-x1-x2))-y1) := by
  obtain ⟨s1, s2⟩ := s
  by_cases hx : x1 = x2
  · subst hx
    rcases same_x g h1 h2 with hy | hy
    · subst hy
      have hu := g.inv _ (mul_ne g g.two (y_ne g h1))
      have e : 3*x1^2*finv (2*y1) = l := by
        generalize finv (2*y1) = u at *
        refine eq_of g fun w hw => ?_
        grobner
      simp only [addP, if_true]
      unfold dblY dblX
      rw [e]
      have e1 : l^2 - 2*x1 = l^2-x1-x1 := by grobner
      rw [e1]
    · exact absurd ⟨rfl, hy⟩ hn
  · simp only [addP, if_neg hx]
    have hu := g.inv _ (sub_ne hx)
    have e : (y2-y1)*finv (x2-x1) = l := by
      generalize finv (x2-x1) = u at *
      refine eq_of g fun w hw => ?_
      grobner
    unfold chY chX
    rw [e]
theorem nondeg {x1 y1 x2 y2 : Fin n} (hn : ¬ (x1 = x2 ∧ y1 = -y2)) : x2 - x1 ≠ 0 ∨ y1 + y2 ≠ 0 := by
  by_cases hx : x1 = x2
  · exact .inr (fun e => hn ⟨hx, by grobner⟩)
  · exact .inl (sub_ne hx)
theorem add_inf (P : Pt (Fin n)) : addP P .inf = P := by cases P <;> rfl
theorem inf_add (P : Pt (Fin n)) : addP .inf P = P := by cases P <;> rfl
theorem add_self_neg (P : Pt (Fin n)) (g : Good n) (h : P.on) : addP P (negP P) = .inf := by
  cases P with
  | inf => rfl
  | aff x y =>
    have hy := mul_ne g g.two (y_ne g (show On x y from h))
    simp only [addP, negP, if_true]
    rw [if_neg (fun e => hy (by grobner))]
theorem add_eq_neg {x1 y1 x2 y2 : Fin n} (g : Good n) (h1 : On x1 y1) (h : x1 = x2 ∧ y1 = -y2) : addP (.aff x1 y1) (.aff x2 y2) = .inf := by
  obtain ⟨rfl, rfl⟩ := h
  have := add_self_neg (.aff x1 (-y2)) g h1
  simp only [negP, nn] at this
  exact this
theorem add_comm {P Q : Pt (Fin n)} (g : Good n) (hP : P.on) (hQ : Q.on) : addP P Q = addP Q P := by
  cases P with
  | inf => rw [add_inf, inf_add]
  | aff x1 y1 => cases Q with
    | inf => rw [add_inf, inf_add]
    | aff x2 y2 =>
      by_cases hn : x1 = x2 ∧ y1 = -y2
      · rw [add_eq_neg g hP hn, add_eq_neg g hQ ⟨hn.1.symm, by rw [hn.2, nn]⟩]
      · obtain ⟨l, s⟩ := slope_ex g hP hQ hn
        have s1 := s.dif
        have s2 := s.sum
        rw [add_slope g hP hQ hn s, add_slope g hQ hP (fun h => hn ⟨h.1.symm, by rw [h.2, nn]⟩) (l := l) ⟨by grobner, by grobner⟩]
        have e1 : l^2-x1-x2 = l^2-x2-x1 := by grobner
        rw [e1]
        congr 1
        grobner
/-- what was added can be taken away -/
theorem add_cancel {P Q : Pt (Fin n)} (g : Good n) (hP : P.on) (hQ : Q.on) : addP (addP P Q) (negP Q) = P := by
  cases Q with
  | inf => rw [add_inf]; exact add_inf P
  | aff x2 y2 => cases P with
    | inf => rw [inf_add]; exact add_self_neg _ g hQ
    | aff x1 y1 =>
      by_cases hn : x1 = x2 ∧ y1 = -y2
      · rw [add_eq_neg g hP hn, inf_add]
        obtain ⟨rfl, rfl⟩ := hn
        rfl
      · obtain ⟨l, s⟩ := slope_ex g hP hQ hn
        have hS := add_on g hP hQ
        rw [add_slope g hP hQ hn s] at hS ⊢
        have hs1 := s.dif
        have hs2 := s.sum
        have hy2 := mul_ne g g.two (y_ne g (show On x2 y2 from hQ))
        have hQ' : On x2 (-y2) := neg_on hQ
        simp only [negP]
        generalize ha : l^2-x1-x2 = a at *
        generalize hb : l*(x1-a)-y1 = b at *
        have hne : ¬ (a = x2 ∧ b = - -y2) := by
          rintro ⟨e1, e2⟩
          rw [nn] at e2
          exact hy2 (by grobner)
        have hon : On a b := hS
        rw [add_slope g hS hQ' hne (l := -l) ⟨by grobner, by
          have h1 : On x1 y1 := hP
          have h2 : On x2 y2 := hQ
          unfold On at h1 h2 hon
          rcases nondeg hn with h | h
          · have i := g.inv _ h
            exact eq_of g fun w hw => by grobner
          · have i := g.inv _ h
            exact eq_of g fun w hw => by grobner⟩]
        have e1 : (-l)^2 - a - x2 = x1 := by grobner
        rw [e1]
        congr 1
        grobner
end
end Go.Proofs.YtlofddoojkeakaaDoor.Cv
