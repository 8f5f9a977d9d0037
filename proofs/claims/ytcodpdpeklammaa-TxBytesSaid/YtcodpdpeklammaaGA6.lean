/- Reading in plain Lean: what is read is in range; a list read piece by piece. No condition. | The reference's Low, Size, Text, Copy, Copies, Equal. -/
import Derived.Test.YtcodpdpeklammaaGA5
import Derived.StillTail
namespace Go.Proofs.Ytcodpdpeklammaa
set_option linter.unusedVariables false
set_option linter.unusedSimpArgs false
open Go Go.RowKit

theorem rdBind_inv {α β : Type} {p : Rdr α} {f : α → Rdr β} {r r2 : List Int} {b : β} (h : rdBind p f r = .ok (b, r2)) : ∃ a r1, p r = .ok (a, r1) ∧ f a r1 = .ok (b, r2) := by
  cases hp : p r with
  | error e => rw [rdBind_err hp] at h; cases h
  | ok x => obtain ⟨a, r1⟩ := x; rw [rdBind_ok hp] at h; exact ⟨a, r1, rfl, h⟩
theorem rdTake_inv {n : Nat} {r r2 x : List Int} (h : rdTake n r = .ok (x, r2)) : n ≤ r.length ∧ x = r.take n ∧ r2 = r.drop n := by
  unfold rdTake at h
  split at h
  · cases h
  · injection h with h
    obtain ⟨rfl, rfl⟩ := Prod.mk.inj h
    exact ⟨by omega, rfl, rfl⟩
theorem bytes_take {l : List Int} (h : Bytes l) (n : Nat) : Bytes (l.take n) := fun x hx => h x (List.mem_of_mem_take hx)
theorem bytes_drop {l : List Int} (h : Bytes l) (n : Nat) : Bytes (l.drop n) := fun x hx => h x (List.mem_of_mem_drop hx)
theorem leV_rng : ∀ (l : List Int), Bytes l → 0 ≤ leV l ∧ leV l < 256 ^ l.length
  | [], _ => by simp [leV]
  | b :: r, h => by
    have h1 := h b (by simp)
    have h2 := leV_rng r (fun x hx => h x (by simp [hx]))
    unfold Byte at h1
    rw [leV, List.length_cons, Int.pow_succ]
    omega
theorem rdNum_inv {n : Nat} {r r2 : List Int} {x : Int} (hb : Bytes r) (h : rdNum n r = .ok (x, r2)) : 0 ≤ x ∧ x < 256 ^ n ∧ r2 = r.drop n ∧ Bytes r2 ∧ r2.length ≤ r.length := by
  obtain ⟨b, r1, h1, h2⟩ := rdBind_inv h
  obtain ⟨h3, rfl, rfl⟩ := rdTake_inv h1
  injection h2 with h2
  obtain ⟨rfl, rfl⟩ := Prod.mk.inj h2
  have := leV_rng (r.take n) (bytes_take hb n)
  rw [List.length_take, Nat.min_eq_left h3] at this
  exact ⟨this.1, this.2, rfl, bytes_drop hb n, by simp⟩
theorem rdSize_inv {r r2 : List Int} {x : Int} (hb : Bytes r) (h : rdSize r = .ok (x, r2)) : 0 ≤ x ∧ x ≤ 33554432 ∧ Bytes r2 ∧ r2.length ≤ r.length := by
  obtain ⟨f, r1, h1, h2⟩ := rdBind_inv h
  obtain ⟨a1, a2, _, a3, a4⟩ := rdNum_inv hb h1
  by_cases hf : f < 253
  · rw [if_pos hf] at h2
    injection h2 with h2
    obtain ⟨rfl, rfl⟩ := Prod.mk.inj h2
    exact ⟨a1, by omega, a3, a4⟩
  · rw [if_neg hf] at h2
    obtain ⟨y, r3, h3, h4⟩ := rdBind_inv h2
    obtain ⟨b1, b2, _, b3, b4⟩ := rdNum_inv a3 h3
    split at h4
    · cases h4
    · split at h4
      · cases h4
      · injection h4 with h4
        obtain ⟨rfl, rfl⟩ := Prod.mk.inj h4
        exact ⟨b1, by omega, b3, by omega⟩
theorem rdList_inv {m : Int} {r r2 x : List Int} (hb : Bytes r) (h : rdList m r = .ok (x, r2)) : Bytes x ∧ (x.length : Int) ≤ 33554432 ∧ ((x.length : Int) ≤ m) ∧ Bytes r2 ∧ r2.length ≤ r.length := by
  obtain ⟨n, r1, h1, h2⟩ := rdBind_inv h
  obtain ⟨a1, a2, a3, a4⟩ := rdSize_inv hb h1
  split at h2
  · cases h2
  · obtain ⟨h3, rfl, rfl⟩ := rdTake_inv h2
    exact ⟨bytes_take a3 _, by simp; omega, by simp; omega, bytes_drop a3 _, by simp; omega⟩
theorem rdCount_inv {r r2 : List Int} {n : Nat} (hb : Bytes r) (h : rdCount r = .ok (n, r2)) : n ≤ 25000 ∧ Bytes r2 ∧ r2.length ≤ r.length := by
  obtain ⟨x, r1, h1, h2⟩ := rdBind_inv h
  obtain ⟨a1, a2, a3, a4⟩ := rdSize_inv hb h1
  split at h2
  · cases h2
  · injection h2 with h2
    obtain ⟨rfl, rfl⟩ := Prod.mk.inj h2
    exact ⟨by omega, a3, a4⟩
theorem rdIn_inv {r r2 : List Int} {d : InD} (hb : Bytes r) (h : rdIn r = .ok (d, r2)) : d.Ok ∧ Bytes d.script ∧ d.script.length ≤ 100000 ∧ d.wit = [] ∧ Bytes r2 ∧ r2.length ≤ r.length := by
  obtain ⟨a, r1, h1, h⟩ := rdBind_inv h
  obtain ⟨h0, rfl, rfl⟩ := rdTake_inv h1
  obtain ⟨x, r3, h2, h⟩ := rdBind_inv h
  obtain ⟨x1, x2, _, x3, x4⟩ := rdNum_inv (bytes_drop hb 32) h2
  obtain ⟨s, r4, h3, h⟩ := rdBind_inv h
  obtain ⟨s1, s2, s3, s4, s5⟩ := rdList_inv x3 h3
  obtain ⟨q, r5, h4, h⟩ := rdBind_inv h
  obtain ⟨q1, q2, _, q3, q4⟩ := rdNum_inv s4 h4
  injection h with h
  obtain ⟨rfl, rfl⟩ := Prod.mk.inj h
  have hl : (r.drop 32).length ≤ r.length := by simp
  simp only [Int.reducePow] at x2 q2
  refine ⟨⟨by simp; omega, bytes_take hb 32, ⟨x1, x2⟩, ⟨q1, q2⟩⟩, s1, by show s.length ≤ 100000; omega, rfl, q3, by omega⟩
theorem toI64_range {x : Int} (h0 : 0 ≤ x) (h1 : x < 18446744073709551616) : I64 (toI64 x) := by unfold toI64 I64; split <;> omega
theorem rdOut_inv {r r2 : List Int} {d : OutD} (hb : Bytes r) (h : rdOut r = .ok (d, r2)) : I64 d.value ∧ Bytes d.script ∧ d.script.length ≤ 100000 ∧ Bytes r2 ∧ r2.length ≤ r.length := by
  obtain ⟨x, r3, h2, h⟩ := rdBind_inv h
  obtain ⟨x1, x2, _, x3, x4⟩ := rdNum_inv hb h2
  obtain ⟨s, r4, h3, h⟩ := rdBind_inv h
  obtain ⟨s1, s2, s3, s4, s5⟩ := rdList_inv x3 h3
  injection h with h
  obtain ⟨rfl, rfl⟩ := Prod.mk.inj h
  simp only [Int.reducePow] at x2
  exact ⟨toI64_range x1 x2, s1, by show s.length ≤ 100000; omega, s4, by omega⟩
/-! a list, piece by piece -/
theorem rdMany_next {α : Type} {p : Rdr α} {i : Nat} {l r r2 : List Int} {xs : List α} {a : α} (h : rdMany p i l = .ok (xs, r)) (ha : p r = .ok (a, r2)) : rdMany p (i + 1) l = .ok (xs ++ [a], r2) := by
  rw [rdMany, rdBind_ok h, rdBind_ok ha]; rfl
theorem rdMany_fail {α : Type} {p : Rdr α} {i : Nat} {l r : List Int} {xs : List α} {e : Int} (h : rdMany p i l = .ok (xs, r)) (ha : p r = .error e) : rdMany p (i + 1) l = .error e := by
  rw [rdMany, rdBind_ok h, rdBind_err ha]
theorem rdMany_stop {α : Type} {p : Rdr α} {i : Nat} {l : List Int} {e : Int} (h : rdMany p i l = .error e) : ∀ n, i ≤ n → rdMany p n l = .error e := by
  intro n hn
  obtain ⟨k, rfl⟩ := Nat.le.dest hn
  induction k with
  | zero => exact h
  | succ k ih => rw [← Nat.add_assoc, rdMany, rdBind_err (ih (by omega))]
theorem rdMany_len {α : Type} {p : Rdr α} : ∀ (n : Nat) (l r : List Int) (xs : List α), rdMany p n l = .ok (xs, r) → xs.length = n
  | 0, l, r, xs, h => by injection h with h; obtain ⟨rfl, rfl⟩ := Prod.mk.inj h; rfl
  | n + 1, l, r, xs, h => by
    obtain ⟨ys, r1, h1, h⟩ := rdBind_inv h
    obtain ⟨a, r2, h2, h⟩ := rdBind_inv h
    injection h with h
    obtain ⟨rfl, rfl⟩ := Prod.mk.inj h
    simp [rdMany_len n l r1 ys h1]
theorem rdMany_all {α : Type} {p : Rdr α} {C : α → Prop} (hp : ∀ (r r2 : List Int) (a : α), Bytes r → p r = .ok (a, r2) → C a ∧ Bytes r2) : ∀ (n : Nat) (l r : List Int) (xs : List α), Bytes l → rdMany p n l = .ok (xs, r) → (∀ x ∈ xs, C x) ∧ Bytes r
  | 0, l, r, xs, hb, h => by injection h with h; obtain ⟨rfl, rfl⟩ := Prod.mk.inj h; exact ⟨fun x hx => (by cases hx), hb⟩
  | n + 1, l, r, xs, hb, h => by
    obtain ⟨ys, r1, h1, h⟩ := rdBind_inv h
    obtain ⟨a, r2, h2, h⟩ := rdBind_inv h
    injection h with h
    obtain ⟨rfl, rfl⟩ := Prod.mk.inj h
    obtain ⟨h3, h4⟩ := rdMany_all hp n l r1 ys hb h1
    obtain ⟨h5, h6⟩ := hp r1 r2 a h4 h2
    refine ⟨fun x hx => ?_, h6⟩
    rcases List.mem_append.1 hx with hx | hx
    · exact h3 x hx
    · simp at hx; subst hx; exact h5
theorem rdWits_len (l : List InD) : ∀ (i : Nat) (b r : List Int) (xs : List InD), rdWits l i b = .ok (xs, r) → xs.length = i
  | 0, b, r, xs, h => by injection h with h; obtain ⟨rfl, rfl⟩ := Prod.mk.inj h; rfl
  | i + 1, b, r, xs, h => by
    obtain ⟨ys, r1, h1, h⟩ := rdBind_inv h
    obtain ⟨a, r2, h2, h⟩ := rdBind_inv h
    injection h with h
    obtain ⟨rfl, rfl⟩ := Prod.mk.inj h
    simp [rdWits_len l i b r1 ys h1]
theorem rdWits_stop {l : List InD} {i : Nat} {b : List Int} {e : Int} (h : rdWits l i b = .error e) : ∀ n, i ≤ n → rdWits l n b = .error e := by
  intro n hn
  obtain ⟨k, rfl⟩ := Nat.le.dest hn
  induction k with
  | zero => exact h
  | succ k ih => rw [← Nat.add_assoc, rdWits, rdBind_err (ih (by omega))]
theorem rdWits_next {l : List InD} {i : Nat} {b r r2 r3 : List Int} {xs : List InD} {d : InD} {k : Nat} {ys : List (List Int)} (h : rdWits l i b = .ok (xs, r)) (hd : l[i]? = some d) (hk : rdCount r = .ok (k, r2)) (hy : rdMany (rdList 100000) k r2 = .ok (ys, r3)) :
    rdWits l (i + 1) b = .ok (xs ++ [{ d with wit := ys }], r3) := by
  have e : l.getD i ⟨[], 0, [], 0, []⟩ = d := by simp [List.getD, hd]
  rw [rdWits, rdBind_ok h, e]
  unfold rdWit
  rw [rdBind_ok (show rdBind rdCount _ r = .ok ({ d with wit := ys }, r3) by rw [rdBind_ok hk, rdBind_ok hy]; rfl)]
  rfl
theorem rdWits_fail1 {l : List InD} {i : Nat} {b r : List Int} {xs : List InD} {e : Int} (h : rdWits l i b = .ok (xs, r)) (hk : rdCount r = .error e) : rdWits l (i + 1) b = .error e := by
  rw [rdWits, rdBind_ok h]
  unfold rdWit
  rw [rdBind_err (show rdBind rdCount _ r = .error e from rdBind_err hk)]
theorem rdWits_fail2 {l : List InD} {i : Nat} {b r r2 : List Int} {xs : List InD} {e : Int} {k : Nat} (h : rdWits l i b = .ok (xs, r)) (hk : rdCount r = .ok (k, r2)) (hy : rdMany (rdList 100000) k r2 = .error e) : rdWits l (i + 1) b = .error e := by
  rw [rdWits, rdBind_ok h]
  unfold rdWit
  rw [rdBind_err (show rdBind rdCount _ r = .error e by rw [rdBind_ok hk, rdBind_err hy])]
end Go.Proofs.Ytcodpdpeklammaa
namespace Go.Proofs.Ytcodpdpeklammaa
set_option linter.unusedVariables false
set_option linter.unusedSimpArgs false
open Go Go.RowKit

theorem pmod (x : Int) (h : 0 ≤ x) : x.tmod 256 = x % 256 := Int.tmod_eq_emod_of_nonneg h
theorem pdiv (x : Int) (h : 0 ≤ x) : x.tdiv 256 = x / 256 := Int.tdiv_eq_ediv_of_nonneg h
set_option maxRecDepth 100000 in
set_option maxHeartbeats 1000000 in
theorem low_any (x : Int) (h0 : 0 ≤ x) (h1 : x < 18446744073709551616) (k : Nat) (hk : k ≤ 8) (w : World) :
    Calls Try.prog 25 #[.int .u64 x, .int .i64 k] w fun e w' => ∃ v, e = .returned v ∧ Own w w' v k (leB x k) := by
  have hx : ∀ i, 0 ≤ shr8 x i ∧ shr8 x i < 18446744073709551616 := fun i => ⟨Int.ediv_nonneg h0 (Int.pow_nonneg (by decide)), Int.lt_of_le_of_lt (Int.ediv_le_self _ h0) h1⟩
  have HX := Lib.hid hx; have HD := Lib.hid (shr8_succ x)
  have HLS := Lib.hid (leB_succ x)
  have HL0 := Lib.hid (leB_zero x)
  have HX0 := Lib.hid (shr8_zero x)
  generalize leB x = LB at *
  generalize shr8 x = X at *
  clear hx
  go_enter Try.func25, Try.ntmps25
  go_wp2
  go_loopw [0, 5, 6] (fun xx vv c wr => ∃ i : Nat, i ≤ k ∧ c = .int .i64 i ∧ xx = .int .u64 (X i) ∧ Own w wr vv i (LB i)) (fun _ _ c _ => (k - intOf c).toNat)
  case atStart => exact ⟨0, by omega, rfl, by rw [HX0.out], by rw [HL0.out]; exact Own.nil w⟩
  case round =>
    obtain ⟨i, hi, rfl, rfl, hw1⟩ := hrel
    by_cases hlt : i < k
    · obtain ⟨x0, x1⟩ := HX.out i
      have hm : IntKind.u8.wrap (X i % 256) = X i % 256 := by rw [IntKind.wrap_u8]; omega
      have hm1 := pmod (X i) x0
      have hm2 := pdiv (X i) x0
      have hm3 : IntKind.u64.wrap (X i % 256) = X i % 256 := by rw [IntKind.wrap_u64]; omega
      have hm4 : IntKind.u64.wrap (X i / 256) = X i / 256 := by rw [IntKind.wrap_u64]; omega
      have hxd := HD.out i
      have hxs := HLS.out i
      have HXD := Lib.hid hxd; have HXS := Lib.hid hxs
      have HW := Lib.hid hw1
      clear hxd hxs hw1
      obtain ⟨a1, c1, rfl⟩ := HW.out.any
      generalize X i = xi at *
      go_wp2_with (refine own_append1 rfl _ _ rfl HW.out rfl 1 _ _ rfl (by omega) ?_; intro v2 w2 hO hG; obtain ⟨a2, cp2, rfl⟩ := hO.any; have HO2 := Lib.hid hO; clear hO hG)
      go_roundw
      case rel => exact ⟨i + 1, by omega, by go_num, by rw [HXD.out], by rw [HXS.out]; exact HO2.out⟩
      case measure => simp [intOf]; omega
    · obtain rfl : i = k := by omega
      have HW := Lib.hid hw1
      clear hw1
      obtain ⟨a1, c1, rfl⟩ := HW.out.any
      go_wp2
      go_ret
      exact ⟨_, rfl, HW.out⟩
theorem Own.news {w W : World} (h : Keeps w W) (l : List Int) (hl : l.length ≤ maxLen) (T : TypeId) (cs : Array Value) (hcs : cs = (l.map (Value.int .u8)).toArray) : Own w (W.alloc (.cells cs T)) (.slice (some ⟨W.heap.size, 0, none⟩) l.length l.length) l.length l := by
  subst hcs
  exact ⟨Below.alloc h h.size _, Buf.of_row (Row.new _ _ _ rfl) (by simp) (by simp) hl, fun g e => by simp [Value.ownBlock] at e; have := h.size; omega⟩
theorem Own.keepsW {w W w' : World} {v : Value} {n : Nat} {l : List Int} (hk : Keeps w W) (h : Own W w' v n l) : Own w w' v n l := ⟨hk.trans h.keeps, h.buf, fun g e => Nat.le_trans hk.size (h.new g e)⟩
set_option maxHeartbeats 1000000 in
theorem size_big (x : Int) (h0 : 0 ≤ x) (h1 : x < 18446744073709551616) (k : Nat) (m : Int) (hk : (k = 2 ∧ m = 253 ∧ ¬ x ≤ 252 ∧ x ≤ 65535) ∨ (k = 4 ∧ m = 254 ∧ ¬ x ≤ 252 ∧ ¬ x ≤ 65535 ∧ x ≤ 4294967295) ∨ (k = 8 ∧ m = 255 ∧ ¬ x ≤ 252 ∧ ¬ x ≤ 65535 ∧ ¬ x ≤ 4294967295)) (w : World) :
    Calls Try.prog 29 #[.int .u64 x] w fun e w' => ∃ v, e = .returned v ∧ Own w w' v (1 + k) (m :: leB x k) := by
  have HL := Lib.hid (low_any x h0 h1 k (by omega))
  generalize leB x k = L at *
  rcases hk with ⟨rfl, rfl, a1, a2⟩ | ⟨rfl, rfl, a1, a2, a3⟩ | ⟨rfl, rfl, a1, a2, a3⟩ <;> (
    go_enter Try.func29, Try.ntmps29
    go_wp2_with (first | (go_at_call 25; refine (HL.out _).mono ?_; rintro e W2 ⟨v2, rfl, hO2⟩; obtain ⟨a2', c2', rfl⟩ := hO2.any; have HO2 := Lib.hid hO2; clear hO2) | (refine own_append rfl _ _ rfl (Own.news (Keeps.refl w) [_] (by decide) _ _ rfl) HO2.out.keeps rfl _ rfl _ _ (HO2.out.rd.src Try.underlying29 (int_oneCell L)) (by simp) ?_; intro v3 w3 hO3 hG3; obtain ⟨a3', c3', rfl⟩ := hO3.any; have HO3 := Lib.hid hO3; clear hO3 hG3))
    go_ret
    exact ⟨_, rfl, HO3.out⟩)
set_option maxHeartbeats 1000000 in
theorem size_small (x : Int) (h0 : 0 ≤ x) (h1 : x ≤ 252) (w : World) :
    Calls Try.prog 29 #[.int .u64 x] w fun e w' => ∃ v, e = .returned v ∧ Own w w' v 1 [x] := by
  have hm : IntKind.u8.wrap x = x := by rw [IntKind.wrap_u8]; omega
  go_enter Try.func29, Try.ntmps29
  go_wp2
  go_ret
  exact ⟨_, rfl, Own.news (Keeps.refl w) [x] (by simp [maxLen]) _ _ rfl⟩
theorem size_any (x : Int) (h0 : 0 ≤ x) (h1 : x < 18446744073709551616) (w : World) :
    Calls Try.prog 29 #[.int .u64 x] w fun e w' => ∃ v, e = .returned v ∧ Own w w' v (sizeB x).length (sizeB x) := by
  unfold sizeB
  by_cases h2 : x < 253
  · rw [if_pos h2]; exact size_small x h0 (by omega) w
  · rw [if_neg h2]
    have big : ∀ (k : Nat) (m : Int), ((k = 2 ∧ m = 253 ∧ ¬ x ≤ 252 ∧ x ≤ 65535) ∨ (k = 4 ∧ m = 254 ∧ ¬ x ≤ 252 ∧ ¬ x ≤ 65535 ∧ x ≤ 4294967295) ∨ (k = 8 ∧ m = 255 ∧ ¬ x ≤ 252 ∧ ¬ x ≤ 65535 ∧ ¬ x ≤ 4294967295)) →
        Calls Try.prog 29 #[.int .u64 x] w fun e w' => ∃ v, e = .returned v ∧ Own w w' v (m :: leB x k).length (m :: leB x k) := fun k m hk => by
      rw [List.length_cons, leB_length, Nat.add_comm k 1]; exact size_big x h0 h1 k m hk w
    by_cases h3 : x < 65536
    · rw [if_pos h3]; exact big 2 253 (by simp; omega)
    · rw [if_neg h3]
      by_cases h4 : x < 4294967296
      · rw [if_pos h4]; exact big 4 254 (by simp; omega)
      · rw [if_neg h4]; exact big 8 255 (by simp; omega)
set_option maxHeartbeats 1000000 in
theorem text_any (v : Value) (l : List Int) (hl : l.length ≤ 140737488355000) (w : World) (hr : Rd w 1 v l.length (l.map (Value.int .u8))) :
    Calls Try.prog 30 #[v] w fun e w' => ∃ v', e = .returned v' ∧ Own w w' v' (textB l).length (textB l) := by
  have HS := Lib.hid (size_any (l.length : Int) (by omega) (by omega))
  have hsl := sizeB_len (l.length : Int)
  have htl : (textB l).length = (sizeB (l.length : Int)).length + l.length := by unfold textB; simp
  rw [htl]
  unfold textB
  clear htl
  generalize sizeB (l.length : Int) = SB at *
  obtain ⟨xa, xc, rfl⟩ : ∃ a c, v = .slice a l.length c := by obtain ⟨_, a, c, e, _⟩ := hr; exact ⟨a, c, e⟩
  have HR := Lib.hid hr
  clear hr
  go_enter Try.func30, Try.ntmps30
  go_wp2_with (first | (go_at_call 29; refine (HS.out _).mono ?_; rintro e W2 ⟨v2, rfl, hO2⟩; obtain ⟨a2', c2', rfl⟩ := hO2.any; have HO2 := Lib.hid hO2; clear hO2) | (refine own_append rfl _ _ rfl HO2.out (Keeps.refl _) rfl _ rfl _ l ((HR.out.keeps HO2.out.keeps).src Try.underlying29 (int_oneCell l)) (by omega) ?_; intro v3 w3 hO3 hG3; obtain ⟨a3', c3', rfl⟩ := hO3.any; have HO3 := Lib.hid hO3; clear hO3 hG3))
  go_ret
  exact ⟨_, rfl, HO3.out⟩
set_option maxHeartbeats 1000000 in
theorem rcopy_any (v : Value) (l : List Int) (hl : l.length ≤ 140737488355328) (w : World) (hr : Rd w 1 v l.length (l.map (Value.int .u8))) :
    Calls Try.prog 70 #[v] w fun e w' => ∃ v', e = .returned v' ∧ Own w w' v' l.length l := by
  obtain ⟨xa, xc, rfl⟩ : ∃ a c, v = .slice a l.length c := by obtain ⟨_, a, c, e, _⟩ := hr; exact ⟨a, c, e⟩
  have HR := Lib.hid hr
  clear hr
  go_enter Try.func70, Try.ntmps70
  go_wp2_with (refine own_append rfl _ _ rfl (Own.made w _) (Keeps.refl _) rfl _ rfl _ l ((HR.out.keeps (Own.made w _).keeps).src Try.underlying29 (int_oneCell l)) (by omega) ?_; intro v3 w3 hO3 hG3; obtain ⟨a3', c3', rfl⟩ := hO3.any; have HO3 := Lib.hid hO3; clear hO3 hG3)
  go_ret
  exact ⟨_, rfl, by have := HO3.out; simpa using this⟩
end Go.Proofs.Ytcodpdpeklammaa
