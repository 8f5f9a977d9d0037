/- The reference's Low, Size, Text, Copy, Copies, Equal. -/
import Derived.Test.YtjfkkdkmpnpmpaaTxWire
import Derived.StillTail
namespace Go.Proofs.Ytjfkkdkmpnpmpaa
set_option linter.unusedVariables false
set_option linter.unusedSimpArgs false
open Go Go.RowKit

theorem pmod (x : Int) (h : 0 ≤ x) : x.tmod 256 = x % 256 := Int.tmod_eq_emod_of_nonneg h
theorem pdiv (x : Int) (h : 0 ≤ x) : x.tdiv 256 = x / 256 := Int.tdiv_eq_ediv_of_nonneg h
set_option maxRecDepth 100000 in
set_option maxHeartbeats 1000000 in
theorem low_any (x : Int) (h0 : 0 ≤ x) (h1 : x < 18446744073709551616) (k : Nat) (hk : k ≤ 8) (w : World) :
    Calls Try.prog 50 #[.int .u64 x, .int .i64 k] w fun e w' => ∃ v, e = .returned v ∧ Own w w' v k (leB x k) := by
  have hx : ∀ i, 0 ≤ shr8 x i ∧ shr8 x i < 18446744073709551616 := fun i => ⟨Int.ediv_nonneg h0 (Int.pow_nonneg (by decide)), Int.lt_of_le_of_lt (Int.ediv_le_self _ h0) h1⟩
  have HX := Lib.hid hx; have HD := Lib.hid (shr8_succ x)
  have HLS := Lib.hid (leB_succ x)
  have HL0 := Lib.hid (leB_zero x)
  have HX0 := Lib.hid (shr8_zero x)
  generalize leB x = LB at *
  generalize shr8 x = X at *
  clear hx
  go_enter Try.func50, Try.ntmps50
  go_wp2
  go_loopw [0, 5, 6] (fun xx vv c wr => ∃ i : Nat, i ≤ k ∧ c = .int .i64 i ∧ xx = .int .u64 (X i) ∧ Own w wr vv i (LB i)) (fun _ _ c _ => (k - intOf c).toNat)
  case atStart => exact ⟨0, by omega, rfl, by rw [HX0.out], by rw [HL0.out]; exact Own.nil w⟩
  case round =>
    obtain ⟨i, hi, rfl, rfl, hw1⟩ := hrel
    by_cases hlt : i < k
    · obtain ⟨x0, x1⟩ := HX.out i
      have hm : IntKind.u8.wrap (X i % 256) = X i % 256 := by rw [IntKind.wrap_u8]; omega
      have hm1 := pmod (X i) x0
      have hm2 := pdiv (X i) x0
      have hm3 : IntKind.u64.wrap (X i % 256) = X i % 256 := by rw [IntKind.wrap_u64]; omega
      have hm4 : IntKind.u64.wrap (X i / 256) = X i / 256 := by rw [IntKind.wrap_u64]; omega
      have hxd := HD.out i
      have hxs := HLS.out i
      have HXD := Lib.hid hxd; have HXS := Lib.hid hxs
      have HW := Lib.hid hw1
      clear hxd hxs hw1
      obtain ⟨a1, c1, rfl⟩ := HW.out.any
      generalize X i = xi at *
      go_wp2_with (refine own_append1 rfl _ _ rfl HW.out rfl 1 _ _ rfl (by omega) ?_; intro v2 w2 hO hG; obtain ⟨a2, cp2, rfl⟩ := hO.any; have HO2 := Lib.hid hO; clear hO hG)
      go_roundw
      case rel => exact ⟨i + 1, by omega, by go_num, by rw [HXD.out], by rw [HXS.out]; exact HO2.out⟩
      case measure => simp [intOf]; omega
    · obtain rfl : i = k := by omega
      have HW := Lib.hid hw1
      clear hw1
      obtain ⟨a1, c1, rfl⟩ := HW.out.any
      go_wp2
      go_ret
      exact ⟨_, rfl, HW.out⟩
theorem Own.news {w W : World} (h : Keeps w W) (l : List Int) (hl : l.length ≤ maxLen) (T : TypeId) (cs : Array Value) (hcs : cs = (l.map (Value.int .u8)).toArray) : Own w (W.alloc (.cells cs T)) (.slice (some ⟨W.heap.size, 0, none⟩) l.length l.length) l.length l := by
  subst hcs
  exact ⟨Below.alloc h h.size _, Buf.of_row (Row.new _ _ _ rfl) (by simp) (by simp) hl, fun g e => by simp [Value.ownBlock] at e; have := h.size; omega⟩
theorem Own.keepsW {w W w' : World} {v : Value} {n : Nat} {l : List Int} (hk : Keeps w W) (h : Own W w' v n l) : Own w w' v n l := ⟨hk.trans h.keeps, h.buf, fun g e => Nat.le_trans hk.size (h.new g e)⟩
set_option maxHeartbeats 1000000 in
theorem size_big (x : Int) (h0 : 0 ≤ x) (h1 : x < 18446744073709551616) (k : Nat) (m : Int) (hk : (k = 2 ∧ m = 253 ∧ ¬ x ≤ 252 ∧ x ≤ 65535) ∨ (k = 4 ∧ m = 254 ∧ ¬ x ≤ 252 ∧ ¬ x ≤ 65535 ∧ x ≤ 4294967295) ∨ (k = 8 ∧ m = 255 ∧ ¬ x ≤ 252 ∧ ¬ x ≤ 65535 ∧ ¬ x ≤ 4294967295)) (w : World) :
    Calls Try.prog 54 #[.int .u64 x] w fun e w' => ∃ v, e = .returned v ∧ Own w w' v (1 + k) (m :: leB x k) := by
  have HL := Lib.hid (low_any x h0 h1 k (by omega))
  generalize leB x k = L at *
  rcases hk with ⟨rfl, rfl, a1, a2⟩ | ⟨rfl, rfl, a1, a2, a3⟩ | ⟨rfl, rfl, a1, a2, a3⟩ <;> (
    go_enter Try.func54, Try.ntmps54
    go_wp2_with (first | (go_at_call 50; refine (HL.out _).mono ?_; rintro e W2 ⟨v2, rfl, hO2⟩; obtain ⟨a2', c2', rfl⟩ := hO2.any; have HO2 := Lib.hid hO2; clear hO2) | (refine own_append rfl _ _ rfl (Own.news (Keeps.refl w) [_] (by decide) _ _ rfl) HO2.out.keeps rfl _ rfl _ _ (HO2.out.rd.src Try.underlying39 (int_oneCell L)) (by simp) ?_; intro v3 w3 hO3 hG3; obtain ⟨a3', c3', rfl⟩ := hO3.any; have HO3 := Lib.hid hO3; clear hO3 hG3))
    go_ret
    exact ⟨_, rfl, HO3.out⟩)
set_option maxHeartbeats 1000000 in
theorem size_small (x : Int) (h0 : 0 ≤ x) (h1 : x ≤ 252) (w : World) :
    Calls Try.prog 54 #[.int .u64 x] w fun e w' => ∃ v, e = .returned v ∧ Own w w' v 1 [x] := by
  have hm : IntKind.u8.wrap x = x := by rw [IntKind.wrap_u8]; omega
  go_enter Try.func54, Try.ntmps54
  go_wp2
  go_ret
  exact ⟨_, rfl, Own.news (Keeps.refl w) [x] (by simp [maxLen]) _ _ rfl⟩
theorem size_any (x : Int) (h0 : 0 ≤ x) (h1 : x < 18446744073709551616) (w : World) :
    Calls Try.prog 54 #[.int .u64 x] w fun e w' => ∃ v, e = .returned v ∧ Own w w' v (sizeB x).length (sizeB x) := by
  unfold sizeB
  by_cases h2 : x < 253
  · rw [if_pos h2]; exact size_small x h0 (by omega) w
  · rw [if_neg h2]
    have big : ∀ (k : Nat) (m : Int), ((k = 2 ∧ m = 253 ∧ ¬ x ≤ 252 ∧ x ≤ 65535) ∨ (k = 4 ∧ m = 254 ∧ ¬ x ≤ 252 ∧ ¬ x ≤ 65535 ∧ x ≤ 4294967295) ∨ (k = 8 ∧ m = 255 ∧ ¬ x ≤ 252 ∧ ¬ x ≤ 65535 ∧ ¬ x ≤ 4294967295)) →
        Calls Try.prog 54 #[.int .u64 x] w fun e w' => ∃ v, e = .returned v ∧ Own w w' v (m :: leB x k).length (m :: leB x k) := fun k m hk => by
      rw [List.length_cons, leB_length, Nat.add_comm k 1]; exact size_big x h0 h1 k m hk w
    by_cases h3 : x < 65536
    · rw [if_pos h3]; exact big 2 253 (by simp; omega)
    · rw [if_neg h3]
      by_cases h4 : x < 4294967296
      · rw [if_pos h4]; exact big 4 254 (by simp; omega)
      · rw [if_neg h4]; exact big 8 255 (by simp; omega)
set_option maxHeartbeats 1000000 in
theorem text_any (v : Value) (l : List Int) (hl : l.length ≤ 140737488355000) (w : World) (hr : Rd w 1 v l.length (l.map (Value.int .u8))) :
    Calls Try.prog 55 #[v] w fun e w' => ∃ v', e = .returned v' ∧ Own w w' v' (textB l).length (textB l) := by
  have HS := Lib.hid (size_any (l.length : Int) (by omega) (by omega))
  have hsl := sizeB_len (l.length : Int)
  have htl : (textB l).length = (sizeB (l.length : Int)).length + l.length := by unfold textB; simp
  rw [htl]
  unfold textB
  clear htl
  generalize sizeB (l.length : Int) = SB at *
  obtain ⟨xa, xc, rfl⟩ : ∃ a c, v = .slice a l.length c := by obtain ⟨_, a, c, e, _⟩ := hr; exact ⟨a, c, e⟩
  have HR := Lib.hid hr
  clear hr
  go_enter Try.func55, Try.ntmps55
  go_wp2_with (first | (go_at_call 54; refine (HS.out _).mono ?_; rintro e W2 ⟨v2, rfl, hO2⟩; obtain ⟨a2', c2', rfl⟩ := hO2.any; have HO2 := Lib.hid hO2; clear hO2) | (refine own_append rfl _ _ rfl HO2.out (Keeps.refl _) rfl _ rfl _ l ((HR.out.keeps HO2.out.keeps).src Try.underlying39 (int_oneCell l)) (by omega) ?_; intro v3 w3 hO3 hG3; obtain ⟨a3', c3', rfl⟩ := hO3.any; have HO3 := Lib.hid hO3; clear hO3 hG3))
  go_ret
  exact ⟨_, rfl, HO3.out⟩
set_option maxHeartbeats 1000000 in
theorem rcopy_any (v : Value) (l : List Int) (hl : l.length ≤ 140737488355328) (w : World) (hr : Rd w 1 v l.length (l.map (Value.int .u8))) :
    Calls Try.prog 48 #[v] w fun e w' => ∃ v', e = .returned v' ∧ Own w w' v' l.length l := by
  obtain ⟨xa, xc, rfl⟩ : ∃ a c, v = .slice a l.length c := by obtain ⟨_, a, c, e, _⟩ := hr; exact ⟨a, c, e⟩
  have HR := Lib.hid hr
  clear hr
  go_enter Try.func48, Try.ntmps48
  go_wp2_with (refine own_append rfl _ _ rfl (Own.made w _) (Keeps.refl _) rfl _ rfl _ l ((HR.out.keeps (Own.made w _).keeps).src Try.underlying39 (int_oneCell l)) (by omega) ?_; intro v3 w3 hO3 hG3; obtain ⟨a3', c3', rfl⟩ := hO3.any; have HO3 := Lib.hid hO3; clear hO3 hG3)
  go_ret
  exact ⟨_, rfl, by have := HO3.out; simpa using this⟩
end Go.Proofs.Ytjfkkdkmpnpmpaa
