/- Reading in plain Lean: what is read is in range; a list read piece by piece. No condition. | The reference's Low, Size, Text, Copy, Copies, Equal. | A region that draws its order, whose last operations come in one forced order: its head under a condition S on the world (a load may be taken first where nobody in the head writes its cell), then the tail as a plain list. No condition. | The reference's Copies: a list of slices of one's own. -/
import Derived.Test.YtcodpdpeklammaaGreatDoorGA3
import Derived.StillTail
import Derived.Deep.RegionHeld
namespace Go.Proofs.YtcodpdpeklammaaGreatDoor
set_option linter.unusedVariables false
set_option linter.unusedSimpArgs false
open Go Go.RowKit

theorem rdBind_inv {α β : Type} {p : Rdr α} {f : α → Rdr β} {r r2 : List Int} {b : β} (h : rdBind p f r = .ok (b, r2)) : ∃ a r1, p r = .ok (a, r1) ∧ f a r1 = .ok (b, r2) := by
  cases hp : p r with
  | error e => rw [rdBind_err hp] at h; cases h
  | ok x => obtain ⟨a, r1⟩ := x; rw [rdBind_ok hp] at h; exact ⟨a, r1, rfl, h⟩
theorem rdTake_inv {n : Nat} {r r2 x : List Int} (h : rdTake n r = .ok (x, r2)) : n ≤ r.length ∧ x = r.take n ∧ r2 = r.drop n := by
  unfold rdTake at h
  split at h
  · cases h
  · injection h with h
    obtain ⟨rfl, rfl⟩ := Prod.mk.inj h
    exact ⟨by omega, rfl, rfl⟩
theorem bytes_take {l : List Int} (h : Bytes l) (n : Nat) : Bytes (l.take n) := fun x hx => h x (List.mem_of_mem_take hx)
theorem bytes_drop {l : List Int} (h : Bytes l) (n : Nat) : Bytes (l.drop n) := fun x hx => h x (List.mem_of_mem_drop hx)
theorem leV_rng : ∀ (l : List Int), Bytes l → 0 ≤ leV l ∧ leV l < 256 ^ l.length
  | [], _ => by simp [leV]
  | b :: r, h => by
    have h1 := h b (by simp)
    have h2 := leV_rng r (fun x hx => h x (by simp [hx]))
    unfold Byte at h1
    rw [leV, List.length_cons, Int.pow_succ]
    omega
theorem rdNum_inv {n : Nat} {r r2 : List Int} {x : Int} (hb : Bytes r) (h : rdNum n r = .ok (x, r2)) : 0 ≤ x ∧ x < 256 ^ n ∧ r2 = r.drop n ∧ Bytes r2 ∧ r2.length ≤ r.length := by
  obtain ⟨b, r1, h1, h2⟩ := rdBind_inv h
  obtain ⟨h3, rfl, rfl⟩ := rdTake_inv h1
  injection h2 with h2
  obtain ⟨rfl, rfl⟩ := Prod.mk.inj h2
  have := leV_rng (r.take n) (bytes_take hb n)
  rw [List.length_take, Nat.min_eq_left h3] at this
  exact ⟨this.1, this.2, rfl, bytes_drop hb n, by simp⟩
theorem rdSize_inv {r r2 : List Int} {x : Int} (hb : Bytes r) (h : rdSize r = .ok (x, r2)) : 0 ≤ x ∧ x ≤ 33554432 ∧ Bytes r2 ∧ r2.length ≤ r.length := by
  obtain ⟨f, r1, h1, h2⟩ := rdBind_inv h
  obtain ⟨a1, a2, _, a3, a4⟩ := rdNum_inv hb h1
  by_cases hf : f < 253
  · rw [if_pos hf] at h2
    injection h2 with h2
    obtain ⟨rfl, rfl⟩ := Prod.mk.inj h2
    exact ⟨a1, by omega, a3, a4⟩
  · rw [if_neg hf] at h2
    obtain ⟨y, r3, h3, h4⟩ := rdBind_inv h2
    obtain ⟨b1, b2, _, b3, b4⟩ := rdNum_inv a3 h3
    split at h4
    · cases h4
    · split at h4
      · cases h4
      · injection h4 with h4
        obtain ⟨rfl, rfl⟩ := Prod.mk.inj h4
        exact ⟨b1, by omega, b3, by omega⟩
theorem rdList_inv {m : Int} {r r2 x : List Int} (hb : Bytes r) (h : rdList m r = .ok (x, r2)) : Bytes x ∧ (x.length : Int) ≤ 33554432 ∧ ((x.length : Int) ≤ m) ∧ Bytes r2 ∧ r2.length ≤ r.length := by
  obtain ⟨n, r1, h1, h2⟩ := rdBind_inv h
  obtain ⟨a1, a2, a3, a4⟩ := rdSize_inv hb h1
  split at h2
  · cases h2
  · obtain ⟨h3, rfl, rfl⟩ := rdTake_inv h2
    exact ⟨bytes_take a3 _, by simp; omega, by simp; omega, bytes_drop a3 _, by simp; omega⟩
theorem rdCount_inv {r r2 : List Int} {n : Nat} (hb : Bytes r) (h : rdCount r = .ok (n, r2)) : n ≤ 25000 ∧ Bytes r2 ∧ r2.length ≤ r.length := by
  obtain ⟨x, r1, h1, h2⟩ := rdBind_inv h
  obtain ⟨a1, a2, a3, a4⟩ := rdSize_inv hb h1
  split at h2
  · cases h2
  · injection h2 with h2
    obtain ⟨rfl, rfl⟩ := Prod.mk.inj h2
    exact ⟨by omega, a3, a4⟩
theorem rdIn_inv {r r2 : List Int} {d : InD} (hb : Bytes r) (h : rdIn r = .ok (d, r2)) : d.Ok ∧ Bytes d.script ∧ d.script.length ≤ 100000 ∧ d.wit = [] ∧ Bytes r2 ∧ r2.length ≤ r.length := by
  obtain ⟨a, r1, h1, h⟩ := rdBind_inv h
  obtain ⟨h0, rfl, rfl⟩ := rdTake_inv h1
  obtain ⟨x, r3, h2, h⟩ := rdBind_inv h
  obtain ⟨x1, x2, _, x3, x4⟩ := rdNum_inv (bytes_drop hb 32) h2
  obtain ⟨s, r4, h3, h⟩ := rdBind_inv h
  obtain ⟨s1, s2, s3, s4, s5⟩ := rdList_inv x3 h3
  obtain ⟨q, r5, h4, h⟩ := rdBind_inv h
  obtain ⟨q1, q2, _, q3, q4⟩ := rdNum_inv s4 h4
  injection h with h
  obtain ⟨rfl, rfl⟩ := Prod.mk.inj h
  have hl : (r.drop 32).length ≤ r.length := by simp
  simp only [Int.reducePow] at x2 q2
  refine ⟨⟨by simp; omega, bytes_take hb 32, ⟨x1, x2⟩, ⟨q1, q2⟩⟩, s1, by show s.length ≤ 100000; omega, rfl, q3, by omega⟩
theorem toI64_range {x : Int} (h0 : 0 ≤ x) (h1 : x < 18446744073709551616) : I64 (toI64 x) := by unfold toI64 I64; split <;> omega
theorem rdOut_inv {r r2 : List Int} {d : OutD} (hb : Bytes r) (h : rdOut r = .ok (d, r2)) : I64 d.value ∧ Bytes d.script ∧ d.script.length ≤ 100000 ∧ Bytes r2 ∧ r2.length ≤ r.length := by
  obtain ⟨x, r3, h2, h⟩ := rdBind_inv h
  obtain ⟨x1, x2, _, x3, x4⟩ := rdNum_inv hb h2
  obtain ⟨s, r4, h3, h⟩ := rdBind_inv h
  obtain ⟨s1, s2, s3, s4, s5⟩ := rdList_inv x3 h3
  injection h with h
  obtain ⟨rfl, rfl⟩ := Prod.mk.inj h
  simp only [Int.reducePow] at x2
  exact ⟨toI64_range x1 x2, s1, by show s.length ≤ 100000; omega, s4, by omega⟩
/-! a list, piece by piece -/
theorem rdMany_next {α : Type} {p : Rdr α} {i : Nat} {l r r2 : List Int} {xs : List α} {a : α} (h : rdMany p i l = .ok (xs, r)) (ha : p r = .ok (a, r2)) : rdMany p (i + 1) l = .ok (xs ++ [a], r2) := by
  rw [rdMany, rdBind_ok h, rdBind_ok ha]; rfl
theorem rdMany_fail {α : Type} {p : Rdr α} {i : Nat} {l r : List Int} {xs : List α} {e : Int} (h : rdMany p i l = .ok (xs, r)) (ha : p r = .error e) : rdMany p (i + 1) l = .error e := by
  rw [rdMany, rdBind_ok h, rdBind_err ha]
theorem rdMany_stop {α : Type} {p : Rdr α} {i : Nat} {l : List Int} {e : Int} (h : rdMany p i l = .error e) : ∀ n, i ≤ n → rdMany p n l = .error e := by
  intro n hn
  obtain ⟨k, rfl⟩ := Nat.le.dest hn
  induction k with
  | zero => exact h
  | succ k ih => rw [← Nat.add_assoc, rdMany, rdBind_err (ih (by omega))]
theorem rdMany_len {α : Type} {p : Rdr α} : ∀ (n : Nat) (l r : List Int) (xs : List α), rdMany p n l = .ok (xs, r) → xs.length = n
  | 0, l, r, xs, h => by injection h with h; obtain ⟨rfl, rfl⟩ := Prod.mk.inj h; rfl
  | n + 1, l, r, xs, h => by
    obtain ⟨ys, r1, h1, h⟩ := rdBind_inv h
    obtain ⟨a, r2, h2, h⟩ := rdBind_inv h
    injection h with h
    obtain ⟨rfl, rfl⟩ := Prod.mk.inj h
    simp [rdMany_len n l r1 ys h1]
theorem rdWits_len (l : List InD) : ∀ (i : Nat) (b r : List Int) (xs : List InD), rdWits l i b = .ok (xs, r) → xs.length = i
  | 0, b, r, xs, h => by injection h with h; obtain ⟨rfl, rfl⟩ := Prod.mk.inj h; rfl
  | i + 1, b, r, xs, h => by
    obtain ⟨ys, r1, h1, h⟩ := rdBind_inv h
    obtain ⟨a, r2, h2, h⟩ := rdBind_inv h
    injection h with h
    obtain ⟨rfl, rfl⟩ := Prod.mk.inj h
    simp [rdWits_len l i b r1 ys h1]
theorem rdWits_stop {l : List InD} {i : Nat} {b : List Int} {e : Int} (h : rdWits l i b = .error e) : ∀ n, i ≤ n → rdWits l n b = .error e := by
  intro n hn
  obtain ⟨k, rfl⟩ := Nat.le.dest hn
  induction k with
  | zero => exact h
  | succ k ih => rw [← Nat.add_assoc, rdWits, rdBind_err (ih (by omega))]
theorem rdWits_next {l : List InD} {i : Nat} {b r r2 r3 : List Int} {xs : List InD} {d : InD} {k : Nat} {ys : List (List Int)} (h : rdWits l i b = .ok (xs, r)) (hd : l[i]? = some d) (hk : rdCount r = .ok (k, r2)) (hy : rdMany (rdList 100000) k r2 = .ok (ys, r3)) :
    rdWits l (i + 1) b = .ok (xs ++ [{ d with wit := ys }], r3) := by
  have e : l.getD i ⟨[], 0, [], 0, []⟩ = d := by simp [List.getD, hd]
  rw [rdWits, rdBind_ok h, e]
  unfold rdWit
  rw [rdBind_ok (show rdBind rdCount _ r = .ok ({ d with wit := ys }, r3) by rw [rdBind_ok hk, rdBind_ok hy]; rfl)]
  rfl
theorem rdWits_fail1 {l : List InD} {i : Nat} {b r : List Int} {xs : List InD} {e : Int} (h : rdWits l i b = .ok (xs, r)) (hk : rdCount r = .error e) : rdWits l (i + 1) b = .error e := by
  rw [rdWits, rdBind_ok h]
  unfold rdWit
  rw [rdBind_err (show rdBind rdCount _ r = .error e from rdBind_err hk)]
theorem rdWits_fail2 {l : List InD} {i : Nat} {b r r2 : List Int} {xs : List InD} {e : Int} {k : Nat} (h : rdWits l i b = .ok (xs, r)) (hk : rdCount r = .ok (k, r2)) (hy : rdMany (rdList 100000) k r2 = .error e) : rdWits l (i + 1) b = .error e := by
  rw [rdWits, rdBind_ok h]
  unfold rdWit
  rw [rdBind_err (show rdBind rdCount _ r = .error e by rw [rdBind_ok hk, rdBind_err hy])]
theorem pmod (x : Int) (h : 0 ≤ x) : x.tmod 256 = x % 256 := Int.tmod_eq_emod_of_nonneg h
theorem pdiv (x : Int) (h : 0 ≤ x) : x.tdiv 256 = x / 256 := Int.tdiv_eq_ediv_of_nonneg h
set_option maxRecDepth 100000 in
set_option maxHeartbeats 1000000 in
theorem low_any (x : Int) (h0 : 0 ≤ x) (h1 : x < 18446744073709551616) (k : Nat) (hk : k ≤ 8) (w : World) :
    Calls Tryz.prog 33 #[.int .u64 x, .int .i64 k] w fun e w' => ∃ v, e = .returned v ∧ Own w w' v k (leB x k) := by
  have hx : ∀ i, 0 ≤ shr8 x i ∧ shr8 x i < 18446744073709551616 := fun i => ⟨Int.ediv_nonneg h0 (Int.pow_nonneg (by decide)), Int.lt_of_le_of_lt (Int.ediv_le_self _ h0) h1⟩
  have HX := Lib.hid hx; have HD := Lib.hid (shr8_succ x)
  have HLS := Lib.hid (leB_succ x)
  have HL0 := Lib.hid (leB_zero x)
  have HX0 := Lib.hid (shr8_zero x)
  generalize leB x = LB at *
  generalize shr8 x = X at *
  clear hx
  go_enter Tryz.func33, Tryz.ntmps33
  go_wp2
  go_loopw [0, 5, 6] (fun xx vv c wr => ∃ i : Nat, i ≤ k ∧ c = .int .i64 i ∧ xx = .int .u64 (X i) ∧ Own w wr vv i (LB i)) (fun _ _ c _ => (k - intOf c).toNat)
  case atStart => exact ⟨0, by omega, rfl, by rw [HX0.out], by rw [HL0.out]; exact Own.nil w⟩
  case round =>
    obtain ⟨i, hi, rfl, rfl, hw1⟩ := hrel
    by_cases hlt : i < k
    · obtain ⟨x0, x1⟩ := HX.out i
      have hm : IntKind.u8.wrap (X i % 256) = X i % 256 := by rw [IntKind.wrap_u8]; omega
      have hm1 := pmod (X i) x0
      have hm2 := pdiv (X i) x0
      have hm3 : IntKind.u64.wrap (X i % 256) = X i % 256 := by rw [IntKind.wrap_u64]; omega
      have hm4 : IntKind.u64.wrap (X i / 256) = X i / 256 := by rw [IntKind.wrap_u64]; omega
      have hxd := HD.out i
      have hxs := HLS.out i
      have HXD := Lib.hid hxd; have HXS := Lib.hid hxs
      have HW := Lib.hid hw1
      clear hxd hxs hw1
      obtain ⟨a1, c1, rfl⟩ := HW.out.any
      generalize X i = xi at *
      go_wp2_with (refine own_append1 rfl _ _ rfl HW.out rfl 1 _ _ rfl (by omega) ?_; intro v2 w2 hO hG; obtain ⟨a2, cp2, rfl⟩ := hO.any; have HO2 := Lib.hid hO; clear hO hG)
      go_roundw
      case rel => exact ⟨i + 1, by omega, by go_num, by rw [HXD.out], by rw [HXS.out]; exact HO2.out⟩
      case measure => simp [intOf]; omega
    · obtain rfl : i = k := by omega
      have HW := Lib.hid hw1
      clear hw1
      obtain ⟨a1, c1, rfl⟩ := HW.out.any
      go_wp2
      go_ret
      exact ⟨_, rfl, HW.out⟩
theorem Own.news {w W : World} (h : Keeps w W) (l : List Int) (hl : l.length ≤ maxLen) (T : TypeId) (cs : Array Value) (hcs : cs = (l.map (Value.int .u8)).toArray) : Own w (W.alloc (.cells cs T)) (.slice (some ⟨W.heap.size, 0, none⟩) l.length l.length) l.length l := by
  subst hcs
  exact ⟨Below.alloc h h.size _, Buf.of_row (Row.new _ _ _ rfl) (by simp) (by simp) hl, fun g e => by simp [Value.ownBlock] at e; have := h.size; omega⟩
theorem Own.keepsW {w W w' : World} {v : Value} {n : Nat} {l : List Int} (hk : Keeps w W) (h : Own W w' v n l) : Own w w' v n l := ⟨hk.trans h.keeps, h.buf, fun g e => Nat.le_trans hk.size (h.new g e)⟩
set_option maxHeartbeats 1000000 in
theorem size_big (x : Int) (h0 : 0 ≤ x) (h1 : x < 18446744073709551616) (k : Nat) (m : Int) (hk : (k = 2 ∧ m = 253 ∧ ¬ x ≤ 252 ∧ x ≤ 65535) ∨ (k = 4 ∧ m = 254 ∧ ¬ x ≤ 252 ∧ ¬ x ≤ 65535 ∧ x ≤ 4294967295) ∨ (k = 8 ∧ m = 255 ∧ ¬ x ≤ 252 ∧ ¬ x ≤ 65535 ∧ ¬ x ≤ 4294967295)) (w : World) :
    Calls Tryz.prog 30 #[.int .u64 x] w fun e w' => ∃ v, e = .returned v ∧ Own w w' v (1 + k) (m :: leB x k) := by
  have HL := Lib.hid (low_any x h0 h1 k (by omega))
  generalize leB x k = L at *
  rcases hk with ⟨rfl, rfl, a1, a2⟩ | ⟨rfl, rfl, a1, a2, a3⟩ | ⟨rfl, rfl, a1, a2, a3⟩ <;> (
    go_enter Tryz.func30, Tryz.ntmps30
    go_wp2_with (first | (go_at_call 33; refine (HL.out _).mono ?_; rintro e W2 ⟨v2, rfl, hO2⟩; obtain ⟨a2', c2', rfl⟩ := hO2.any; have HO2 := Lib.hid hO2; clear hO2) | (refine own_append rfl _ _ rfl (Own.news (Keeps.refl w) [_] (by decide) _ _ rfl) HO2.out.keeps rfl _ rfl _ _ (HO2.out.rd.src Tryz.underlying32 (int_oneCell L)) (by simp) ?_; intro v3 w3 hO3 hG3; obtain ⟨a3', c3', rfl⟩ := hO3.any; have HO3 := Lib.hid hO3; clear hO3 hG3))
    go_ret
    exact ⟨_, rfl, HO3.out⟩)
set_option maxHeartbeats 1000000 in
theorem size_small (x : Int) (h0 : 0 ≤ x) (h1 : x ≤ 252) (w : World) :
    Calls Tryz.prog 30 #[.int .u64 x] w fun e w' => ∃ v, e = .returned v ∧ Own w w' v 1 [x] := by
  have hm : IntKind.u8.wrap x = x := by rw [IntKind.wrap_u8]; omega
  go_enter Tryz.func30, Tryz.ntmps30
  go_wp2
  go_ret
  exact ⟨_, rfl, Own.news (Keeps.refl w) [x] (by simp [maxLen]) _ _ rfl⟩
theorem size_any (x : Int) (h0 : 0 ≤ x) (h1 : x < 18446744073709551616) (w : World) :
    Calls Tryz.prog 30 #[.int .u64 x] w fun e w' => ∃ v, e = .returned v ∧ Own w w' v (sizeB x).length (sizeB x) := by
  unfold sizeB
  by_cases h2 : x < 253
  · rw [if_pos h2]; exact size_small x h0 (by omega) w
  · rw [if_neg h2]
    have big : ∀ (k : Nat) (m : Int), ((k = 2 ∧ m = 253 ∧ ¬ x ≤ 252 ∧ x ≤ 65535) ∨ (k = 4 ∧ m = 254 ∧ ¬ x ≤ 252 ∧ ¬ x ≤ 65535 ∧ x ≤ 4294967295) ∨ (k = 8 ∧ m = 255 ∧ ¬ x ≤ 252 ∧ ¬ x ≤ 65535 ∧ ¬ x ≤ 4294967295)) →
        Calls Tryz.prog 30 #[.int .u64 x] w fun e w' => ∃ v, e = .returned v ∧ Own w w' v (m :: leB x k).length (m :: leB x k) := fun k m hk => by
      rw [List.length_cons, leB_length, Nat.add_comm k 1]; exact size_big x h0 h1 k m hk w
    by_cases h3 : x < 65536
    · rw [if_pos h3]; exact big 2 253 (by simp; omega)
    · rw [if_neg h3]
      by_cases h4 : x < 4294967296
      · rw [if_pos h4]; exact big 4 254 (by simp; omega)
      · rw [if_neg h4]; exact big 8 255 (by simp; omega)
set_option maxHeartbeats 1000000 in
theorem text_any (v : Value) (l : List Int) (hl : l.length ≤ 140737488355000) (w : World) (hr : Rd w 1 v l.length (l.map (Value.int .u8))) :
    Calls Tryz.prog 31 #[v] w fun e w' => ∃ v', e = .returned v' ∧ Own w w' v' (textB l).length (textB l) := by
  have HS := Lib.hid (size_any (l.length : Int) (by omega) (by omega))
  have hsl := sizeB_len (l.length : Int)
  have htl : (textB l).length = (sizeB (l.length : Int)).length + l.length := by unfold textB; simp
  rw [htl]
  unfold textB
  clear htl
  generalize sizeB (l.length : Int) = SB at *
  obtain ⟨xa, xc, rfl⟩ : ∃ a c, v = .slice a l.length c := by obtain ⟨_, a, c, e, _⟩ := hr; exact ⟨a, c, e⟩
  have HR := Lib.hid hr
  clear hr
  go_enter Tryz.func31, Tryz.ntmps31
  go_wp2_with (first | (go_at_call 30; refine (HS.out _).mono ?_; rintro e W2 ⟨v2, rfl, hO2⟩; obtain ⟨a2', c2', rfl⟩ := hO2.any; have HO2 := Lib.hid hO2; clear hO2) | (refine own_append rfl _ _ rfl HO2.out (Keeps.refl _) rfl _ rfl _ l ((HR.out.keeps HO2.out.keeps).src Tryz.underlying32 (int_oneCell l)) (by omega) ?_; intro v3 w3 hO3 hG3; obtain ⟨a3', c3', rfl⟩ := hO3.any; have HO3 := Lib.hid hO3; clear hO3 hG3))
  go_ret
  exact ⟨_, rfl, HO3.out⟩
set_option maxHeartbeats 1000000 in
theorem rcopy_any (v : Value) (l : List Int) (hl : l.length ≤ 140737488355328) (w : World) (hr : Rd w 1 v l.length (l.map (Value.int .u8))) :
    Calls Tryz.prog 81 #[v] w fun e w' => ∃ v', e = .returned v' ∧ Own w w' v' l.length l := by
  obtain ⟨xa, xc, rfl⟩ : ∃ a c, v = .slice a l.length c := by obtain ⟨_, a, c, e, _⟩ := hr; exact ⟨a, c, e⟩
  have HR := Lib.hid hr
  clear hr
  go_enter Tryz.func81, Tryz.ntmps81
  go_wp2_with (refine own_append rfl _ _ rfl (Own.made w _) (Keeps.refl _) rfl _ rfl _ l ((HR.out.keeps (Own.made w _).keeps).src Tryz.underlying32 (int_oneCell l)) (by omega) ?_; intro v3 w3 hO3 hG3; obtain ⟨a3', c3', rfl⟩ := hO3.any; have HO3 := Lib.hid hO3; clear hO3 hG3)
  go_ret
  exact ⟨_, rfl, by have := HO3.out; simpa using this⟩
end Go.Proofs.YtcodpdpeklammaaGreatDoor
namespace Go.Proofs.YtcodpdpeklammaaGreatDoor
set_option linter.unusedVariables false
set_option linter.unusedSimpArgs false
open Go
section
variable {P : Program} {ops : Array Oper} {md : Region.Mode} {S : World → Prop} {Q : Exit → Act → World → Prop}
def wpAnyHL (P : Program) (md : Region.Mode) (ops : Array Oper) (Q : Exit → Act → World → Prop) (S : World → Prop) (n : Nat) (L : Array Bool → Act → World → Prop) : Nat → Array Bool → Act → World → Prop
  | 0, listed, a, w => L listed a w
  | f + 1, listed, a, w =>
    Region.ready md ops listed ≠ [] ∧ ∀ i ∈ Region.ready md ops listed, i < n ∧ wpOp P ops Q i (fun a' w' => S w' ∧ wpAnyHL P md ops Q S n L f (listed.setIfInBounds i true) a' w') a w
theorem wpAny_of_HL {n g : Nat} {L : Array Bool → Act → World → Prop} (hL : ∀ listed a w, L listed a w → wpAny P md ops Q g listed a w) :
    ∀ (f : Nat) (listed : Array Bool) (a : Act) (w : World), wpAnyHL P md ops Q S n L f listed a w → wpAny P md ops Q (f + g) listed a w
  | 0, listed, a, w, h => by rw [Nat.zero_add]; exact hL _ _ _ h
  | f + 1, listed, a, w, h => by
    rw [show f + 1 + g = (f + g) + 1 by omega]
    exact ⟨fun h0 => absurd h0 h.1, fun i hi => wpOp_mono (fun a' w' h' => wpAny_of_HL hL f _ a' w' h'.2) (h.2 i hi).2⟩
theorem wpAnyHL_first {n i : Nat} {oi : Oper} {v : Value} {L : Array Bool → Act → World → Prop} (hi : ops[i]? = some oi) (hsel : ∀ (j : Nat) (o : Oper) cs b, ops[j]? = some o → o.op ≠ .select cs b)
    (hs : Region.sinkB md ops n = true) (hc : Region.chainB md ops n = true) (hn : n < ops.size) (hin : i < n)
    (hQ : ∀ c a w, Q (.panic c) (a.put oi.dst v) w → Q (.panic c) a w)
    (hdone : ∀ listed a w, L listed a w → ∀ j ∈ Region.ready md ops listed, n ≤ j) :
    ∀ (f : Nat) (listed : Array Bool) (a : Act) (w : World), HeadInv md ops n listed →
      (∀ j oj, ops[j]? = some oj → j ≠ i → listed.getD j true = false → (∀ e ∈ oj.after, Region.binds md e = true → e.on ≠ i) → oi.apart ops oj = true) →
      i ∈ Region.ready md ops listed → YieldsIf P ops S oi v a → S w →
      wpAnyHL P md ops Q S n L f (listed.setIfInBounds i true) (a.put oi.dst v) w → wpAnyHL P md ops Q S n L (f + 1) listed a w := by
  intro f
  induction f with
  | zero =>
    intro listed a w inv _ hr hy hS H
    have hun := (mem_ready.1 hr).1
    refine ⟨fun h => (by rw [h] at hr; cases hr), fun j hj => ?_⟩
    have hjn : j < n := by
      rcases Nat.lt_or_ge j n with h | h
      · exact h
      · exact absurd hj (tail_waits hs hc hn inv _ i rfl hin hun j h)
    refine ⟨hjn, ?_⟩
    by_cases hji : j = i
    · subst hji; exact hy.wpOp hi hS ⟨hS, H⟩
    · have := hdone _ _ _ H j (ready_mono hj hji)
      omega
  | succ f ih =>
    intro listed a w inv hfree hr hy hS H
    have hun := (mem_ready.1 hr).1
    refine ⟨fun h => (by rw [h] at hr; cases hr), fun j hj => ?_⟩
    have hjn : j < n := by
      rcases Nat.lt_or_ge j n with h | h
      · exact h
      · exact absurd hj (tail_waits hs hc hn inv _ i rfl hin hun j h)
    refine ⟨hjn, ?_⟩
    by_cases hji : j = i
    · subst hji; exact hy.wpOp hi hS ⟨hS, H⟩
    · have h1 := (H.2 j (ready_mono hj hji)).2
      obtain ⟨hjun, oj, hoj, hall⟩ := mem_ready.1 hj
      have hnot : ∀ e ∈ oj.after, Region.binds md e = true → e.on ≠ i := fun e he hb heq => by
        have h1 := hall e he hb
        rw [heq, getD_both hun] at h1
        cases h1
      have h2 := wpOp_putIf hoj (hfree j oj hoj hji hjun hnot) (fun cs b => hsel i oi cs b hi) (fun cs b => hsel j oj cs b hoj) hQ hy h1
      have hfree' : ∀ k ok, ops[k]? = some ok → k ≠ i → (listed.setIfInBounds j true).getD k true = false →
          (∀ e ∈ ok.after, Region.binds md e = true → e.on ≠ i) → oi.apart ops ok = true := fun k ok hk hki hun hno => by
        refine hfree k ok hk hki ?_ hno
        by_cases hjk : j = k
        · subst hjk; exact hjun
        · rw [getD_set_ne true hjk] at hun; exact hun
      refine wpOp_mono (fun a' w' h3 => ⟨h3.2.1, ih (listed.setIfInBounds j true) a' w' (inv.set hj hjn) hfree' (ready_mono hr (Ne.symm hji)) h3.1 h3.2.1 ?_⟩) h2
      rw [Array.setIfInBounds_comm _ _ hji]
      exact h3.2.2
/-- the tail, once the head is done -/
def TailL (P : Program) (md : Region.Mode) (ops : Array Oper) (Q : Exit → Act → World → Prop) (n : Nat) (tail : List Oper) (listed : Array Bool) (a : Act) (w : World) : Prop := Region.seqB md ops tail.length n listed = true ∧ wpList P ops Q tail a w
def headInvB (md : Region.Mode) (ops : Array Oper) (n : Nat) (listed : Array Bool) : Bool :=
  decide (listed.size = ops.size) && (List.range ops.size).all (fun j => !(listed.getD j false) || (match ops[j]? with | some oj => oj.after.all (fun e => !(Region.binds md e) || listed.getD e.on false) | none => true)) &&
    (List.range ops.size).all (fun t => decide (t < n) || !(listed.getD t true))
theorem headInv_of {n : Nat} {listed : Array Bool} (h : headInvB md ops n listed = true) : HeadInv md ops n listed := by
  unfold headInvB at h
  simp only [Bool.and_eq_true, decide_eq_true_eq] at h
  obtain ⟨⟨h1, h2⟩, h3⟩ := h
  refine ⟨h1, fun j oj hj hl e he hb => ?_, fun t ht hts => ?_⟩
  · have := List.all_eq_true.1 h2 j (List.mem_range.2 (Array.getElem?_eq_some_iff.1 hj).1)
    rw [hl, hj] at this
    simp only [Bool.not_true, Bool.false_or] at this
    have := Array.all_eq_true'.1 this e he
    simpa [hb] using this
  · have := List.all_eq_true.1 h3 t (List.mem_range.2 hts)
    have hd : decide (t < n) = false := by simp; omega
    rw [hd] at this
    simpa using this
theorem wpAnyHL_take {n i : Nat} {oi : Oper} {v : Value} {tail : List Oper} {f : Nat} {listed : Array Bool} {a : Act} {w : World} (hi : ops[i]? = some oi) (hsel : Region.noSelect ops = true)
    (hs : Region.sinkB md ops n = true) (hc : Region.chainB md ops n = true) (hn : decide (n < ops.size ∧ i < n) = true) (hinv : headInvB md ops n listed = true)
    (hf : Region.free md ops listed i = true) (hr : (Region.ready md ops listed).contains i = true)
    (hQ : ∀ c a w, Q (.panic c) (a.put oi.dst v) w → Q (.panic c) a w) (hy : YieldsIf P ops S oi v a) (hS : S w)
    (h : wpAnyHL P md ops Q S n (TailL P md ops Q n tail) f (listed.setIfInBounds i true) (a.put oi.dst v) w) : wpAnyHL P md ops Q S n (TailL P md ops Q n tail) (f + 1) listed a w := by
  have hn' := of_decide_eq_true hn
  exact wpAnyHL_first hi (Region.noSelect_spec hsel) hs hc hn'.1 hn'.2 hQ (fun _ _ _ hL => seqB_ready hL.1) f listed a w (headInv_of hinv) (Region.free_spec hi hf) (by simpa using hr) hy hS h
def AllReadyL (P : Program) (md : Region.Mode) (ops : Array Oper) (Q : Exit → Act → World → Prop) (S : World → Prop) (n : Nat) (L : Array Bool → Act → World → Prop) (fuel : Nat) (listed : Array Bool) (a : Act) (w : World) (rs : List Nat) : Prop :=
  ∀ i ∈ rs, i < n ∧ wpOp P ops Q i (fun a' w' => S w' ∧ wpAnyHL P md ops Q S n L fuel (listed.setIfInBounds i true) a' w') a w
theorem AllReadyL.nil {n : Nat} {L : Array Bool → Act → World → Prop} {fuel : Nat} {listed : Array Bool} {a : Act} {w : World} : AllReadyL P md ops Q S n L fuel listed a w [] := fun _ h => by cases h
theorem AllReadyL.cons {n : Nat} {L : Array Bool → Act → World → Prop} {fuel : Nat} {listed : Array Bool} {a : Act} {w : World} {i : Nat} {o : Oper} {rs : List Nat} (hin : decide (i < n) = true) (ho : ops[i]? = some o)
    (h : ∀ K' : Act → World → Prop, Shut (∀ a w, S w → (S w → wpAnyHL P md ops Q S n L fuel (listed.setIfInBounds i true) a w) → K' a w) → if Region.wanted o (yielded ops a.tmps) = true then Oper.wp P o a w K' Q else K' (a.put o.dst undef) w)
    (hs : AllReadyL P md ops Q S n L fuel listed a w rs) : AllReadyL P md ops Q S n L fuel listed a w (i :: rs) := fun j hj => by
  rcases List.mem_cons.1 hj with rfl | hj
  · exact ⟨of_decide_eq_true hin, wpOp_step ho (fun K' hK => h K' (fun a w hS hW => hK a w ⟨hS, hW hS⟩))⟩
  · exact hs j hj
theorem wpAnyHL_ready {n : Nat} {L : Array Bool → Act → World → Prop} {rs : List Nat} {fuel : Nat} {listed : Array Bool} {a : Act} {w : World} (hr : Region.ready md ops listed = rs) (hne : rs ≠ [])
    (h : AllReadyL P md ops Q S n L fuel listed a w rs) : wpAnyHL P md ops Q S n L (fuel + 1) listed a w := ⟨by rw [hr]; exact hne, by rw [hr]; exact h⟩
/-- an exit's condition, but at the normal exit K -/
def StepQ (Q : Exit → Act → World → Prop) (K : Act → World → Prop) : Exit → Act → World → Prop
  | .normal, a, w => K a w
  | e, a, w => Q e a w
theorem wp_stepQ {o : Oper} {a : Act} {w : World} {K K' : Act → World → Prop} (h : o.wp P a w K' (StepQ Q K)) (hk : ∀ a w, K' a w → K a w) : o.wp P a w K Q := by
  unfold Oper.wp at *
  generalize (execOp a.eval o).run P w = r at *
  cases r with
  | ok n w' =>
    cases n <;> simp only [Oper.upon] at h ⊢ <;>
      first
        | exact hk _ _ h
        | exact Calls.mono h (fun e w'' he => by cases e <;> first | exact hk _ _ he | exact he)
        | exact Rows.mono h (fun _ _ he => hk _ _ he)
  | halt x w' => cases x <;> simp only [Oper.upon] at h ⊢ <;> exact h
theorem wpAnyHL_one {n i : Nat} {o : Oper} {L : Array Bool → Act → World → Prop} {fuel : Nat} {listed : Array Bool} {a : Act} {w : World} (hr : Region.ready md ops listed = [i]) (hin : decide (i < n) = true) (ho : ops[i]? = some o)
    (h : wpList P ops (StepQ Q (fun a w => S w ∧ (S w → wpAnyHL P md ops Q S n L fuel (listed.setIfInBounds i true) a w))) [o] a w) : wpAnyHL P md ops Q S n L (fuel + 1) listed a w := by
  refine ⟨by rw [hr]; simp, fun j hj => ?_⟩
  rw [hr] at hj
  obtain rfl : j = i := by simpa using hj
  refine ⟨of_decide_eq_true hin, ?_⟩
  unfold wpOp
  simp only [ho]
  simp only [wpList] at h
  split
  · rename_i hw
    simp only [hw, if_true] at h
    rcases h with h | ⟨h1, h2⟩
    · exact .inl (wp_stepQ h (fun a w hk => ⟨hk.1, hk.2 hk.1⟩))
    · exact .inr ⟨h1, h2⟩
  · rename_i hw
    simp only [hw] at h
    exact ⟨h.1, h.2 h.1⟩
theorem wpAnyHL_done {n : Nat} {tail : List Oper} {listed : Array Bool} {a : Act} {w : World} (hr : Region.seqB md ops tail.length n listed = true) (h : wpList P ops Q tail a w) : wpAnyHL P md ops Q S n (TailL P md ops Q n tail) 0 listed a w := ⟨hr, h⟩
theorem wp_region_head {id : Nat} {a : Act} {w : World} {l : List Oper} (S : World → Prop) (n : Nat) (hm : P.follows .mixedOrders = true) (hn : decide (n ≤ l.length) = true) (hS : S w.drew)
    (h : S w.drew → wpAnyHL P .any l.toArray Q S n (TailL P .any l.toArray Q n (l.drop n)) n (Array.replicate l.toArray.size false) a w.drew) : (Code.region id l.toArray true).wp P Q a w := by
  have hn' := of_decide_eq_true hn
  refine wp_region_any hm ?_
  have hdl : (l.drop n).length = l.toArray.size - n := by simp
  have := wpAny_of_HL (Q := Q) (g := l.toArray.size - n) (fun listed a' w' hL => by
    have := wpAny_of_seq (md := .any) (Q' := Q) (l.drop n) n listed a' w' (fun j => by simp [List.getElem?_drop]) hL.1 hL.2
    rwa [hdl] at this) _ _ _ _ (h hS)
  rw [show n + (l.toArray.size - n) = l.toArray.size by simp; omega] at this
  exact this
end
end Go.Proofs.YtcodpdpeklammaaGreatDoor
namespace Go.Proofs.YtcodpdpeklammaaGreatDoor
set_option linter.unusedVariables false
set_option linter.unusedSimpArgs false
open Go Go.RowKit

theorem sl_info : (Tryz.prog.info? 32).map (fun i => (i.zero, i.size, i.bytes)) = some (some (.slice none 0 0), 1, 24) := by kernel_rfl
theorem info_any {t : TypeId} {z : Value} {s b : Nat} (h : (Tryz.prog.info? t).map (fun i => (i.zero, i.size, i.bytes)) = some (some z, s, b)) : ∃ i, Tryz.prog.info? t = some i ∧ i.zero = some z ∧ i.size = s ∧ i.bytes = b := by
  cases hq : Tryz.prog.info? t with
  | none => simp [hq] at h
  | some i => simp [hq] at h; exact ⟨i, rfl, h.1, h.2.1, h.2.2⟩
theorem RB.one {S : Nat → Prop} {w : World} {v : Value} {l : List Int} (h : RB S w v l) : v.oneCell' = true := by
  obtain ⟨a, cap, rfl, _⟩ := h.any; rfl
theorem Own.rb {w W : World} {v : Value} {l : List Int} (h : Own w W v l.length l) (hb : Bytes l) (hl : l.length ≤ 140737488355328) : RB (fun g => w.heap.size ≤ g ∧ g < W.heap.size) W v l :=
  ⟨h.rd, hb, hl, fun g e => ⟨h.new g e, h.buf.lt e⟩⟩
/-- since w a list of slices has been made, of whose spare room may be used -/
structure OwnL (w W : World) (v : Value) (ls : List (List Int)) (vs : List Value) : Prop where
  keeps : Keeps w W
  buf : Buf W 1 v ls.length vs
  new : ∀ g, v.ownBlock = some g → w.heap.size ≤ g
  each : ∀ (i : Nat) (u : Value) (l : List Int), vs[i]? = some u → ls[i]? = some l → RB (fun g => w.heap.size ≤ g ∧ g < W.heap.size ∧ v.ownBlock ≠ some g) W u l
  one : ∀ u ∈ vs, u.oneCell' = true
theorem OwnL.nil (w : World) : OwnL w w (.slice none 0 0) [] [] := ⟨Keeps.refl _, Buf.nil _ _, fun g h => by simp [Value.ownBlock] at h, fun i u l h => by simp at h, fun u h => by simp at h⟩
theorem OwnL.step {w W W' : World} {v : Value} {ls : List (List Int)} {vs : List Value} (h : OwnL w W v ls vs) (hk : Keeps W W') : OwnL w W' v ls vs :=
  ⟨h.keeps.trans hk, h.buf.keeps hk, h.new, fun i u l hu hl => ((h.each i u l hu hl).keeps hk).mono (fun g hg => ⟨hg.1, Nat.lt_of_lt_of_le hg.2.1 hk.size, hg.2.2⟩), h.one⟩
theorem OwnL.any {w W : World} {v : Value} {ls : List (List Int)} {vs : List Value} (h : OwnL w W v ls vs) : ∃ a cap, v = .slice a ls.length cap := by
  obtain ⟨a, cap, h1, _⟩ := h.buf.any
  exact ⟨a, cap, h1⟩
/-- behind an append of one more -/
theorem OwnL.after {w W W1 w2 : World} {v v' u : Value} {ls : List (List Int)} {vs : List Value} {l : List Int} (h : OwnL w W v ls vs) (hk : Keeps W W1) (hu : RB (fun g => W.heap.size ≤ g ∧ g < W1.heap.size) W1 u l)
    (hb : Buf w2 1 v' (ls.length + 1) (vs ++ [u])) (hc : Chg (fun k => v.ownBlock = some k) W1 w2) (hs : SameOrNew W1 v v') : OwnL w w2 v' (ls ++ [l]) (vs ++ [u]) := by
  have hk1 := h.keeps.trans hk
  have hv' : ∀ g, g < W1.heap.size → v.ownBlock ≠ some g → v'.ownBlock ≠ some g := fun g h1 h2 => by
    rcases hs with e | ⟨g', e1, e2⟩
    · rw [e]; exact h2
    · rw [e1]; intro e; cases e; omega
  have hvl : ∀ g, v.ownBlock = some g → g < W.heap.size := fun g e => h.buf.lt e
  have hw := hk.size
  refine ⟨Below.trans hk1 (hc.below hk1.size (fun k hk2 e => by have := h.new k e; omega)), by rw [List.length_append]; exact hb, ?_, ?_, ?_⟩
  · intro g hg
    rcases hs with e | ⟨g', e1, e2⟩
    · exact h.new g (by rw [← e]; exact hg)
    · rw [hg] at e1; cases e1; exact Nat.le_trans hk1.size e2
  · intro i x l' hx hl'
    have hlen : vs.length = ls.length := by have := h.buf.1; omega
    by_cases hi : i < vs.length
    · rw [List.getElem?_append_left hi] at hx
      rw [List.getElem?_append_left (by omega)] at hl'
      refine (((h.each i x l' hx hl').keeps hk).chg hc (fun g hg => hg.2.2)).mono (fun g hg => ⟨hg.1, by have := hc.size; omega, hv' g (by omega) hg.2.2⟩)
    · have hi' : i = vs.length := by
        have := (List.getElem?_eq_some_iff.1 hx).1
        simp at this; omega
      subst hi'
      rw [List.getElem?_append_right (Nat.le_refl _)] at hx
      rw [hlen, List.getElem?_append_right (Nat.le_refl _)] at hl'
      simp at hx hl'
      subst hx hl'
      refine (hu.chg hc (fun g hg e => by have := hvl g e; omega)).mono (fun g hg => ⟨by have := h.keeps.size; omega, by have := hc.size; omega, hv' g hg.2 (fun e => by have := hvl g e; omega)⟩)
  · intro x hx
    rcases List.mem_append.1 hx with hx | hx
    · exact h.one x hx
    · simp at hx; subst hx; exact hu.one
theorem ownl_append1 {w W W1 : World} {ops : Array Oper} {rest : List Oper} {o : Oper} {a : Act} {Q : Exit → Act → World → Prop} (hgd : o.guard = none) (s x : Operand)
    (ho : o.op = .call { callee := .builtin .append, args := #[s, x], argTypes := #[98, 98] }) {v u : Value} {ls : List (List Int)} {vs : List Value} {l : List Int} (hO : OwnL w W v ls vs) (hk : Keeps W W1) (hu : RB (fun g => W.heap.size ≤ g ∧ g < W1.heap.size) W1 u l) (hv : a.eval s = v)
    (c : Nat) (T : TypeId) (hx : a.eval x = .slice (some ⟨W1.heap.size, 0, none⟩) 1 c) (hn : (ls.length + 1) * 24 ≤ 140737488355328)
    (h : ∀ v' w', OwnL w w' v' (ls ++ [l]) (vs ++ [u]) → wpList Tryz.prog ops Q rest (a.put o.dst v') w') : wpList Tryz.prog ops Q (o :: rest) a (W1.alloc (.cells #[u] T)) := by
  obtain ⟨i0, hi, hz0, hz1, hz2⟩ := info_any sl_info
  have hk2 : Keeps W1 (W1.alloc (.cells #[u] T)) := (Keeps.refl _).alloc (Nat.le_refl _) _
  refine wpList_append_buf hgd s x 98 98 ho 32 i0 (.slice none 0 0) 1 24 Tryz.underlying98 hi hz0 hz1 hz2 rfl (by decide) v ls.length vs hv (hO.buf.keeps (hk.trans hk2)) _ hx 1 [u]
    (Src.row Tryz.underlying98 (by simp) (Row.new [u] _ T rfl) (fun y hy => by simp at hy; subst hy; exact hu.one)) (by unfold maxLen; omega) hn
    (fun v' w' hb hc hs' _ => h v' w' (hO.after (hk.trans hk2) ((hu.keeps hk2).mono (fun g hg => ⟨hg.1, by have := hk2.size; omega⟩)) hb hc hs'))
theorem OwnL.rl {w W : World} {v : Value} {ls : List (List Int)} {vs : List Value} (h : OwnL w W v ls vs) (hl : ls.length * 24 ≤ 140737488355328) :
    RL (fun g => w.heap.size ≤ g ∧ g < W.heap.size ∧ v.ownBlock ≠ some g) (fun g => w.heap.size ≤ g ∧ g < W.heap.size ∧ v.ownBlock = some g) W v ls vs :=
  ⟨h.buf.rd, h.each, hl, fun g e => ⟨h.new g e, h.buf.lt e, e⟩⟩
set_option maxRecDepth 100000 in
set_option maxHeartbeats 1000000 in
theorem rcopies_any (S T : Nat → Prop) (v : Value) (ls : List (List Int)) (w : World) (hr : RLL S T w v ls) :
    Calls Tryz.prog 82 #[v] w fun e w' => ∃ v' vs, e = .returned v' ∧ OwnL w w' v' ls vs := by
  have hsm : ls.length * 24 ≤ 140737488355328 := hr.elim fun _ h => h.small
  obtain ⟨xa, xc, rfl, _, hcm, hnil⟩ := hr.any
  have HR := Lib.hid hr
  clear hr
  go_enter Tryz.func82, Tryz.ntmps82
  go_wp2
  go_loopw [3, 4] (fun vv c wr => ∃ i : Nat, i ≤ ls.length ∧ c = .int .i64 i ∧ ∃ vs, OwnL w wr vv (ls.take i) vs) (fun _ c _ => (ls.length - intOf c).toNat)
  case atStart => exact ⟨0, by omega, rfl, [], OwnL.nil w⟩
  case round =>
    obtain ⟨i, hi, rfl, vs, hw1⟩ := hrel
    by_cases hlt : i < ls.length
    · obtain ⟨g, off, u, rfl, hg, hcell, hrb⟩ := (HR.out.keeps hw1.keeps).at i hlt
      obtain ⟨ua, uc, hue, _⟩ := hrb.any
      have hl0 := hrb.small
      have hbb := hrb.bytes
      have hrd := hrb.rd
      have HRD := Lib.hid hrd; have HBB := Lib.hid hbb
      have HW := Lib.hid hw1
      obtain ⟨a1, c1, hvv⟩ := hw1.any
      have hil : (ls.take i).length = i := by simp; omega
      have htk : ls.take i ++ [ls.getD i []] = ls.take (i + 1) := by
        rw [List.take_succ_eq_append_getElem hlt]; simp [List.getD, hlt]
      rw [hil] at hvv
      subst hvv hue
      have HTK := Lib.hid htk
      clear hrb hrd hbb hw1 htk
      generalize ls.getD i [] = li at *
      go_wp2_with (first | (go_at_call 81; refine (rcopy_any _ li hl0 _ HRD.out).mono ?_; rintro e W2 ⟨v2, rfl, hO2⟩; obtain ⟨a2', c2', rfl⟩ := hO2.any; have HO2 := Lib.hid hO2; clear hO2) | (refine ownl_append1 rfl _ _ rfl HW.out HO2.out.keeps (HO2.out.rb HBB.out hl0) rfl 1 _ rfl (by rw [hil]; omega) ?_; intro v3 w3 hO3; obtain ⟨a3', c3', rfl⟩ := hO3.any; have HO3 := Lib.hid hO3; clear hO3))
      go_roundw
      case rel => exact ⟨i + 1, by omega, by go_num, _, by have h9 := HO3.out; rw [List.length_append, hil] at h9; rw [← HTK.out]; exact h9⟩
      case measure => simp [intOf]; omega
    · obtain rfl : i = ls.length := by omega
      rw [List.take_length] at hw1
      have HW := Lib.hid hw1
      obtain ⟨a1, c1, rfl⟩ := hw1.any
      clear hw1
      go_wp2
      go_ret
      exact ⟨_, _, rfl, HW.out⟩
end Go.Proofs.YtcodpdpeklammaaGreatDoor
