/- The walk of AmountAdds: it returns true and leaves all that was there. -/
import Derived.Test.YtgdbaejcbfofoaaDoorAmtAwake
namespace Go.Proofs.YtgdbaejcbfofoaaDoor
open Go Go.RowKit

theorem sub_bad {a b : Int} (h : validB a = false ∨ validB b = false ∨ a < b) : subV a b = 0 ∧ subE a b = 6 := by
  unfold subV subE
  by_cases ha : validB a = true
  · by_cases hb : validB b = true
    · have h1 : a < b := by simpa [ha, hb] using h
      have h2 : validB (a - b) = false := by unfold validB; simp; omega
      simp [ha, hb, vV, vE, h2]
    · have hb' : validB b = false := by simpa using hb
      simp [hb']
  · have ha' : validB a = false := by simpa using ha
    simp [ha']
theorem sub_good {a b : Int} (ha : validB a = true) (hb : validB b = true) (h : b ≤ a) : subV a b = a - b ∧ subE a b = 0 ∧ addGo 0 [a - b, b] = (a, 0) := by
  have h1 := validB_of ha
  have h2 := validB_of hb
  have h3 : validB (a - b) = true := validB_true (by omega) (by omega)
  have h4 : a - b + b = a := by omega
  simp [subV, subE, ha, hb, vV, vE, h3, addGo, h4]

theorem intsAt_two {w : World} {g : Nat} {x y : Int} (h0 : w.cell? ⟨g, 0, none⟩ = some (.int .i64 x)) (h1 : w.cell? ⟨g, 1, none⟩ = some (.int .i64 y)) (hlt : g < w.heap.size) : SlInts .i64 w (some ⟨g, 0, none⟩) [x, y] := by
  intro _
  refine ⟨g, 0, rfl, hlt, fun i hi => ?_⟩
  rcases i with _ | _ | i
  · simpa using h0
  · simpa using h1
  · simp at hi; omega
theorem radd_two {x y r f : Int} (hr : addGo 0 [x, y] = (r, f)) (g : Nat) (w : World) (h0 : w.cell? ⟨g, 0, none⟩ = some (.int .i64 x)) (h1 : w.cell? ⟨g, 1, none⟩ = some (.int .i64 y)) (hlt : g < w.heap.size) :
    Calls Tryd.prog 16 #[.slice (some ⟨g, 0, none⟩) 2 2] w fun e w' => e = .returned (.tuple #[.int .i64 r, .int .i64 f]) ∧ w = w' := by
  have := radd_any w (some ⟨g, 0, none⟩) 2 2 [x, y] rfl (intsAt_two h0 h1 hlt) (by omega)
  rw [hr] at this
  exact this
theorem info2 : (Tryd.prog.info? 2).map (fun i => (i.zero, i.size, i.bytes)) = some (some (.int .i64 0), 1, 8) := by kernel_rfl

theorem adds_nil_va (a b : Int) (ha : validB a = false) (w : World) (h : PowTab w) :
    Calls Tryd.prog 6 #[.slice none 0 0, .int .i64 a, .int .i64 b] w fun e w' => e = .returned (.bool true) ∧ Keeps w w' := by
  obtain ⟨s1, s2⟩ := sub_bad (b := b) (.inl ha)
  have HS1 := Lib.hid s1; have HS2 := Lib.hid s2; clear s1 s2
  obtain ⟨i0, hi, hz0, hz1, hz2⟩ := info_parts info2
  go_enter Tryd.func6, Tryd.ntmps6
  go_wp2_with (first | (go_at_call 7; refine (awake_any _ h).mono ?_; rintro e w1 ⟨rfl, hk⟩) | (go_at_call 10; refine (valid_any _ _).mono ?_; rintro e w' ⟨rfl, rfl⟩) | (go_at_call 17; refine (rvalid_any _ _).mono ?_; rintro e w' ⟨rfl, rfl⟩) | (go_at_call 18; refine (sub_any _ _ _).mono ?_; rw [HS1.out, HS2.out]; rintro e w' ⟨rfl, rfl⟩) | (at_builtin; refine wpList_append_own_none rfl _ _ 33 rfl 0 2 i0 1 Tryd.underlying33 hi _ 0 [] rfl (World.ownsRow_made _ #[] 0 (Nat.zero_le _) (by decide) rfl) rfl ?_) | (go_at_call 15; ((with_reducible refine (add_nil _ _ _).mono ?_); rintro e w' ⟨rfl, rfl⟩)) | (go_at_call 16; ((with_reducible refine (radd_nil _ none 0).mono ?_); rintro e w' ⟨rfl, rfl⟩)))
  go_ret
  exact ⟨rfl, (hk.trans ((Keeps.refl _).alloc (Nat.le_refl _) _))⟩

theorem adds_le_va (x : Addr) (len cap : Nat) (zs : List Int) (hlen : len ≤ 100) (hl : zs.length = len) (a b : Int) (ha : validB a = false) (w : World) (hz : SlInts .i64 w (some x) zs) (h : PowTab w) :
    Calls Tryd.prog 6 #[.slice (some x) len cap, .int .i64 a, .int .i64 b] w fun e w' => e = .returned (.bool true) ∧ Keeps w w' := by
  obtain ⟨s1, s2⟩ := sub_bad (b := b) (.inl ha)
  have HS1 := Lib.hid s1; have HS2 := Lib.hid s2; clear s1 s2
  have HL := Lib.hid hl
  obtain ⟨i0, hi, hz0, hz1, hz2⟩ := info_parts info2
  clear hl
  go_enter Tryd.func6, Tryd.ntmps6
  go_wp2_with (first | (go_at_call 7; refine (awake_any _ h).mono ?_; rintro e w1 ⟨rfl, hk⟩) | (go_at_call 10; refine (valid_any _ _).mono ?_; rintro e w' ⟨rfl, rfl⟩) | (go_at_call 17; refine (rvalid_any _ _).mono ?_; rintro e w' ⟨rfl, rfl⟩) | (go_at_call 18; refine (sub_any _ _ _).mono ?_; rw [HS1.out, HS2.out]; rintro e w' ⟨rfl, rfl⟩) | (at_builtin; go_must (refine wpList_append_own _ rfl _ _ 33 rfl w.heap.size 2 i0 (.int .i64 0) 1 8 Tryd.underlying33 hi hz0 hz1 hz2 rfl (by decide) _ 0 [] rfl (World.ownsRow_made _ #[] 0 hk.size (by decide) rfl) x len cap (zs.map (Value.int .i64)) rfl (by simp [HL.out]) (by exact ((hz.keeps hk).keeps ((Keeps.refl _).alloc (Nat.le_refl _) _)).news) (int_oneCell zs) (by unfold maxLen; omega) (by omega) (by have := hk.size; simp; omega) ?_); intro v' w2 hown hgrow hnn; go_must (obtain ⟨a', cap', rfl, hz', hl'⟩ := SlInts.of_owned hown (by intro hv; have hq : (Value.slice (some ⟨w1.heap.size, 0, none⟩) 0 0) = Value.slice none 0 0 := (hnn.1 hv).1; cases hq)); have hkg := grown_keeps hgrow; clear hl' hnn hown hgrow) | (go_at_call 15; ((with_reducible refine (add_any _ _ _ _ zs HL.out hz' (by omega)).mono ?_); rintro e w' ⟨rfl, rfl⟩)) | (go_at_call 16; ((with_reducible refine (radd_any _ _ _ _ zs HL.out ((hz.keeps hk).keeps hkg) (by omega)).mono ?_); rintro e w' ⟨rfl, rfl⟩)))
  go_ret
  exact ⟨rfl, hk.trans hkg⟩

theorem adds_gt_va (x : Addr) (len cap : Nat) (zs : List Int) (hlen : 100 < len) (hcap : len ≤ cap) (hl : zs.length = 100) (a b : Int) (ha : validB a = false) (w : World) (hz : SlInts .i64 w (some x) zs) (h : PowTab w) :
    Calls Tryd.prog 6 #[.slice (some x) len cap, .int .i64 a, .int .i64 b] w fun e w' => e = .returned (.bool true) ∧ Keeps w w' := by
  obtain ⟨s1, s2⟩ := sub_bad (b := b) (.inl ha)
  have HS1 := Lib.hid s1; have HS2 := Lib.hid s2; clear s1 s2
  have HL := Lib.hid hl
  obtain ⟨i0, hi, hz0, hz1, hz2⟩ := info_parts info2
  clear hl
  go_enter Tryd.func6, Tryd.ntmps6
  go_wp2_with (first | (go_at_call 7; refine (awake_any _ h).mono ?_; rintro e w1 ⟨rfl, hk⟩) | (go_at_call 10; refine (valid_any _ _).mono ?_; rintro e w' ⟨rfl, rfl⟩) | (go_at_call 17; refine (rvalid_any _ _).mono ?_; rintro e w' ⟨rfl, rfl⟩) | (go_at_call 18; refine (sub_any _ _ _).mono ?_; rw [HS1.out, HS2.out]; rintro e w' ⟨rfl, rfl⟩) | (at_builtin; go_must (refine wpList_append_own _ rfl _ _ 33 rfl w.heap.size 2 i0 (.int .i64 0) 1 8 Tryd.underlying33 hi hz0 hz1 hz2 rfl (by decide) _ 0 [] rfl (World.ownsRow_made _ #[] 0 hk.size (by decide) rfl) x 100 cap (zs.map (Value.int .i64)) rfl (by simp [HL.out]) (by exact ((hz.keeps hk).keeps ((Keeps.refl _).alloc (Nat.le_refl _) _)).news) (int_oneCell zs) (by unfold maxLen; omega) (by omega) (by have := hk.size; simp; omega) ?_); intro v' w2 hown hgrow hnn; go_must (obtain ⟨a', cap', rfl, hz', hl'⟩ := SlInts.of_owned hown (by intro hv; have hq : (Value.slice (some ⟨w1.heap.size, 0, none⟩) 0 0) = Value.slice none 0 0 := (hnn.1 hv).1; cases hq)); have hkg := grown_keeps hgrow; clear hl' hnn hown hgrow) | (go_at_call 15; ((with_reducible refine (add_any _ _ _ _ zs HL.out hz' (by omega)).mono ?_); rintro e w' ⟨rfl, rfl⟩)) | (go_at_call 16; ((with_reducible refine (radd_any _ _ _ _ zs HL.out ((hz.keeps hk).keeps hkg) (by omega)).mono ?_); rintro e w' ⟨rfl, rfl⟩)))
  go_ret
  exact ⟨rfl, hk.trans hkg⟩

theorem adds_nil_vb (a b : Int) (ha : validB a = true) (hb : validB b = false) (w : World) (h : PowTab w) :
    Calls Tryd.prog 6 #[.slice none 0 0, .int .i64 a, .int .i64 b] w fun e w' => e = .returned (.bool true) ∧ Keeps w w' := by
  obtain ⟨s1, s2⟩ := sub_bad (a := a) (.inr (.inl hb))
  have HS1 := Lib.hid s1; have HS2 := Lib.hid s2; clear s1 s2
  obtain ⟨i0, hi, hz0, hz1, hz2⟩ := info_parts info2
  go_enter Tryd.func6, Tryd.ntmps6
  go_wp2_with (first | (go_at_call 7; refine (awake_any _ h).mono ?_; rintro e w1 ⟨rfl, hk⟩) | (go_at_call 10; refine (valid_any _ _).mono ?_; rintro e w' ⟨rfl, rfl⟩) | (go_at_call 17; refine (rvalid_any _ _).mono ?_; rintro e w' ⟨rfl, rfl⟩) | (go_at_call 18; refine (sub_any _ _ _).mono ?_; rw [HS1.out, HS2.out]; rintro e w' ⟨rfl, rfl⟩) | (at_builtin; refine wpList_append_own_none rfl _ _ 33 rfl 0 2 i0 1 Tryd.underlying33 hi _ 0 [] rfl (World.ownsRow_made _ #[] 0 (Nat.zero_le _) (by decide) rfl) rfl ?_) | (go_at_call 15; ((with_reducible refine (add_nil _ _ _).mono ?_); rintro e w' ⟨rfl, rfl⟩)) | (go_at_call 16; ((with_reducible refine (radd_nil _ none 0).mono ?_); rintro e w' ⟨rfl, rfl⟩)))
  go_ret
  exact ⟨rfl, (hk.trans ((Keeps.refl _).alloc (Nat.le_refl _) _))⟩

theorem adds_le_vb (x : Addr) (len cap : Nat) (zs : List Int) (hlen : len ≤ 100) (hl : zs.length = len) (a b : Int) (ha : validB a = true) (hb : validB b = false) (w : World) (hz : SlInts .i64 w (some x) zs) (h : PowTab w) :
    Calls Tryd.prog 6 #[.slice (some x) len cap, .int .i64 a, .int .i64 b] w fun e w' => e = .returned (.bool true) ∧ Keeps w w' := by
  obtain ⟨s1, s2⟩ := sub_bad (a := a) (.inr (.inl hb))
  have HS1 := Lib.hid s1; have HS2 := Lib.hid s2; clear s1 s2
  have HL := Lib.hid hl
  obtain ⟨i0, hi, hz0, hz1, hz2⟩ := info_parts info2
  clear hl
  go_enter Tryd.func6, Tryd.ntmps6
  go_wp2_with (first | (go_at_call 7; refine (awake_any _ h).mono ?_; rintro e w1 ⟨rfl, hk⟩) | (go_at_call 10; refine (valid_any _ _).mono ?_; rintro e w' ⟨rfl, rfl⟩) | (go_at_call 17; refine (rvalid_any _ _).mono ?_; rintro e w' ⟨rfl, rfl⟩) | (go_at_call 18; refine (sub_any _ _ _).mono ?_; rw [HS1.out, HS2.out]; rintro e w' ⟨rfl, rfl⟩) | (at_builtin; go_must (refine wpList_append_own _ rfl _ _ 33 rfl w.heap.size 2 i0 (.int .i64 0) 1 8 Tryd.underlying33 hi hz0 hz1 hz2 rfl (by decide) _ 0 [] rfl (World.ownsRow_made _ #[] 0 hk.size (by decide) rfl) x len cap (zs.map (Value.int .i64)) rfl (by simp [HL.out]) (by exact ((hz.keeps hk).keeps ((Keeps.refl _).alloc (Nat.le_refl _) _)).news) (int_oneCell zs) (by unfold maxLen; omega) (by omega) (by have := hk.size; simp; omega) ?_); intro v' w2 hown hgrow hnn; go_must (obtain ⟨a', cap', rfl, hz', hl'⟩ := SlInts.of_owned hown (by intro hv; have hq : (Value.slice (some ⟨w1.heap.size, 0, none⟩) 0 0) = Value.slice none 0 0 := (hnn.1 hv).1; cases hq)); have hkg := grown_keeps hgrow; clear hl' hnn hown hgrow) | (go_at_call 15; ((with_reducible refine (add_any _ _ _ _ zs HL.out hz' (by omega)).mono ?_); rintro e w' ⟨rfl, rfl⟩)) | (go_at_call 16; ((with_reducible refine (radd_any _ _ _ _ zs HL.out ((hz.keeps hk).keeps hkg) (by omega)).mono ?_); rintro e w' ⟨rfl, rfl⟩)))
  go_ret
  exact ⟨rfl, hk.trans hkg⟩

theorem adds_gt_vb (x : Addr) (len cap : Nat) (zs : List Int) (hlen : 100 < len) (hcap : len ≤ cap) (hl : zs.length = 100) (a b : Int) (ha : validB a = true) (hb : validB b = false) (w : World) (hz : SlInts .i64 w (some x) zs) (h : PowTab w) :
    Calls Tryd.prog 6 #[.slice (some x) len cap, .int .i64 a, .int .i64 b] w fun e w' => e = .returned (.bool true) ∧ Keeps w w' := by
  obtain ⟨s1, s2⟩ := sub_bad (a := a) (.inr (.inl hb))
  have HS1 := Lib.hid s1; have HS2 := Lib.hid s2; clear s1 s2
  have HL := Lib.hid hl
  obtain ⟨i0, hi, hz0, hz1, hz2⟩ := info_parts info2
  clear hl
  go_enter Tryd.func6, Tryd.ntmps6
  go_wp2_with (first | (go_at_call 7; refine (awake_any _ h).mono ?_; rintro e w1 ⟨rfl, hk⟩) | (go_at_call 10; refine (valid_any _ _).mono ?_; rintro e w' ⟨rfl, rfl⟩) | (go_at_call 17; refine (rvalid_any _ _).mono ?_; rintro e w' ⟨rfl, rfl⟩) | (go_at_call 18; refine (sub_any _ _ _).mono ?_; rw [HS1.out, HS2.out]; rintro e w' ⟨rfl, rfl⟩) | (at_builtin; go_must (refine wpList_append_own _ rfl _ _ 33 rfl w.heap.size 2 i0 (.int .i64 0) 1 8 Tryd.underlying33 hi hz0 hz1 hz2 rfl (by decide) _ 0 [] rfl (World.ownsRow_made _ #[] 0 hk.size (by decide) rfl) x 100 cap (zs.map (Value.int .i64)) rfl (by simp [HL.out]) (by exact ((hz.keeps hk).keeps ((Keeps.refl _).alloc (Nat.le_refl _) _)).news) (int_oneCell zs) (by unfold maxLen; omega) (by omega) (by have := hk.size; simp; omega) ?_); intro v' w2 hown hgrow hnn; go_must (obtain ⟨a', cap', rfl, hz', hl'⟩ := SlInts.of_owned hown (by intro hv; have hq : (Value.slice (some ⟨w1.heap.size, 0, none⟩) 0 0) = Value.slice none 0 0 := (hnn.1 hv).1; cases hq)); have hkg := grown_keeps hgrow; clear hl' hnn hown hgrow) | (go_at_call 15; ((with_reducible refine (add_any _ _ _ _ zs HL.out hz' (by omega)).mono ?_); rintro e w' ⟨rfl, rfl⟩)) | (go_at_call 16; ((with_reducible refine (radd_any _ _ _ _ zs HL.out ((hz.keeps hk).keeps hkg) (by omega)).mono ?_); rintro e w' ⟨rfl, rfl⟩)))
  go_ret
  exact ⟨rfl, hk.trans hkg⟩

theorem adds_nil_lt (a b : Int) (ha : validB a = true) (hb : validB b = true) (hab : a < b) (w : World) (h : PowTab w) :
    Calls Tryd.prog 6 #[.slice none 0 0, .int .i64 a, .int .i64 b] w fun e w' => e = .returned (.bool true) ∧ Keeps w w' := by
  obtain ⟨s1, s2⟩ := sub_bad (.inr (.inr hab))
  have HS1 := Lib.hid s1; have HS2 := Lib.hid s2; clear s1 s2
  obtain ⟨i0, hi, hz0, hz1, hz2⟩ := info_parts info2
  go_enter Tryd.func6, Tryd.ntmps6
  go_wp2_with (first | (go_at_call 7; refine (awake_any _ h).mono ?_; rintro e w1 ⟨rfl, hk⟩) | (go_at_call 10; refine (valid_any _ _).mono ?_; rintro e w' ⟨rfl, rfl⟩) | (go_at_call 17; refine (rvalid_any _ _).mono ?_; rintro e w' ⟨rfl, rfl⟩) | (go_at_call 18; refine (sub_any _ _ _).mono ?_; rw [HS1.out, HS2.out]; rintro e w' ⟨rfl, rfl⟩) | (at_builtin; refine wpList_append_own_none rfl _ _ 33 rfl 0 2 i0 1 Tryd.underlying33 hi _ 0 [] rfl (World.ownsRow_made _ #[] 0 (Nat.zero_le _) (by decide) rfl) rfl ?_) | (go_at_call 15; ((with_reducible refine (add_nil _ _ _).mono ?_); rintro e w' ⟨rfl, rfl⟩)) | (go_at_call 16; ((with_reducible refine (radd_nil _ none 0).mono ?_); rintro e w' ⟨rfl, rfl⟩)))
  go_ret
  exact ⟨rfl, (hk.trans ((Keeps.refl _).alloc (Nat.le_refl _) _))⟩

theorem adds_le_lt (x : Addr) (len cap : Nat) (zs : List Int) (hlen : len ≤ 100) (hl : zs.length = len) (a b : Int) (ha : validB a = true) (hb : validB b = true) (hab : a < b) (w : World) (hz : SlInts .i64 w (some x) zs) (h : PowTab w) :
    Calls Tryd.prog 6 #[.slice (some x) len cap, .int .i64 a, .int .i64 b] w fun e w' => e = .returned (.bool true) ∧ Keeps w w' := by
  obtain ⟨s1, s2⟩ := sub_bad (.inr (.inr hab))
  have HS1 := Lib.hid s1; have HS2 := Lib.hid s2; clear s1 s2
  have HL := Lib.hid hl
  obtain ⟨i0, hi, hz0, hz1, hz2⟩ := info_parts info2
  clear hl
  go_enter Tryd.func6, Tryd.ntmps6
  go_wp2_with (first | (go_at_call 7; refine (awake_any _ h).mono ?_; rintro e w1 ⟨rfl, hk⟩) | (go_at_call 10; refine (valid_any _ _).mono ?_; rintro e w' ⟨rfl, rfl⟩) | (go_at_call 17; refine (rvalid_any _ _).mono ?_; rintro e w' ⟨rfl, rfl⟩) | (go_at_call 18; refine (sub_any _ _ _).mono ?_; rw [HS1.out, HS2.out]; rintro e w' ⟨rfl, rfl⟩) | (at_builtin; go_must (refine wpList_append_own _ rfl _ _ 33 rfl w.heap.size 2 i0 (.int .i64 0) 1 8 Tryd.underlying33 hi hz0 hz1 hz2 rfl (by decide) _ 0 [] rfl (World.ownsRow_made _ #[] 0 hk.size (by decide) rfl) x len cap (zs.map (Value.int .i64)) rfl (by simp [HL.out]) (by exact ((hz.keeps hk).keeps ((Keeps.refl _).alloc (Nat.le_refl _) _)).news) (int_oneCell zs) (by unfold maxLen; omega) (by omega) (by have := hk.size; simp; omega) ?_); intro v' w2 hown hgrow hnn; go_must (obtain ⟨a', cap', rfl, hz', hl'⟩ := SlInts.of_owned hown (by intro hv; have hq : (Value.slice (some ⟨w1.heap.size, 0, none⟩) 0 0) = Value.slice none 0 0 := (hnn.1 hv).1; cases hq)); have hkg := grown_keeps hgrow; clear hl' hnn hown hgrow) | (go_at_call 15; ((with_reducible refine (add_any _ _ _ _ zs HL.out hz' (by omega)).mono ?_); rintro e w' ⟨rfl, rfl⟩)) | (go_at_call 16; ((with_reducible refine (radd_any _ _ _ _ zs HL.out ((hz.keeps hk).keeps hkg) (by omega)).mono ?_); rintro e w' ⟨rfl, rfl⟩)))
  go_ret
  exact ⟨rfl, hk.trans hkg⟩

theorem adds_gt_lt (x : Addr) (len cap : Nat) (zs : List Int) (hlen : 100 < len) (hcap : len ≤ cap) (hl : zs.length = 100) (a b : Int) (ha : validB a = true) (hb : validB b = true) (hab : a < b) (w : World) (hz : SlInts .i64 w (some x) zs) (h : PowTab w) :
    Calls Tryd.prog 6 #[.slice (some x) len cap, .int .i64 a, .int .i64 b] w fun e w' => e = .returned (.bool true) ∧ Keeps w w' := by
  obtain ⟨s1, s2⟩ := sub_bad (.inr (.inr hab))
  have HS1 := Lib.hid s1; have HS2 := Lib.hid s2; clear s1 s2
  have HL := Lib.hid hl
  obtain ⟨i0, hi, hz0, hz1, hz2⟩ := info_parts info2
  clear hl
  go_enter Tryd.func6, Tryd.ntmps6
  go_wp2_with (first | (go_at_call 7; refine (awake_any _ h).mono ?_; rintro e w1 ⟨rfl, hk⟩) | (go_at_call 10; refine (valid_any _ _).mono ?_; rintro e w' ⟨rfl, rfl⟩) | (go_at_call 17; refine (rvalid_any _ _).mono ?_; rintro e w' ⟨rfl, rfl⟩) | (go_at_call 18; refine (sub_any _ _ _).mono ?_; rw [HS1.out, HS2.out]; rintro e w' ⟨rfl, rfl⟩) | (at_builtin; go_must (refine wpList_append_own _ rfl _ _ 33 rfl w.heap.size 2 i0 (.int .i64 0) 1 8 Tryd.underlying33 hi hz0 hz1 hz2 rfl (by decide) _ 0 [] rfl (World.ownsRow_made _ #[] 0 hk.size (by decide) rfl) x 100 cap (zs.map (Value.int .i64)) rfl (by simp [HL.out]) (by exact ((hz.keeps hk).keeps ((Keeps.refl _).alloc (Nat.le_refl _) _)).news) (int_oneCell zs) (by unfold maxLen; omega) (by omega) (by have := hk.size; simp; omega) ?_); intro v' w2 hown hgrow hnn; go_must (obtain ⟨a', cap', rfl, hz', hl'⟩ := SlInts.of_owned hown (by intro hv; have hq : (Value.slice (some ⟨w1.heap.size, 0, none⟩) 0 0) = Value.slice none 0 0 := (hnn.1 hv).1; cases hq)); have hkg := grown_keeps hgrow; clear hl' hnn hown hgrow) | (go_at_call 15; ((with_reducible refine (add_any _ _ _ _ zs HL.out hz' (by omega)).mono ?_); rintro e w' ⟨rfl, rfl⟩)) | (go_at_call 16; ((with_reducible refine (radd_any _ _ _ _ zs HL.out ((hz.keeps hk).keeps hkg) (by omega)).mono ?_); rintro e w' ⟨rfl, rfl⟩)))
  go_ret
  exact ⟨rfl, hk.trans hkg⟩

theorem adds_nil_ok (a b : Int) (ha : validB a = true) (hb : validB b = true) (hab : b ≤ a) (w : World) (h : PowTab w) :
    Calls Tryd.prog 6 #[.slice none 0 0, .int .i64 a, .int .i64 b] w fun e w' => e = .returned (.bool true) ∧ Keeps w w' := by
  obtain ⟨s1, s2, s3⟩ := sub_good ha hb hab
  have hba := validB_of ha
  have hbb := validB_of hb
  have HS3 := Lib.hid s3; clear s3
  have HS1 := Lib.hid s1; have HS2 := Lib.hid s2; clear s1 s2
  obtain ⟨i0, hi, hz0, hz1, hz2⟩ := info_parts info2
  go_enter Tryd.func6, Tryd.ntmps6
  go_wp2_with (first | (go_at_call 7; refine (awake_any _ h).mono ?_; rintro e w1 ⟨rfl, hk⟩) | (go_at_call 10; refine (valid_any _ _).mono ?_; rintro e w' ⟨rfl, rfl⟩) | (go_at_call 17; refine (rvalid_any _ _).mono ?_; rintro e w' ⟨rfl, rfl⟩) | (go_at_call 18; refine (sub_any _ _ _).mono ?_; rw [HS1.out, HS2.out]; rintro e w' ⟨rfl, rfl⟩) | (at_builtin; refine wpList_append_own_none rfl _ _ 33 rfl 0 2 i0 1 Tryd.underlying33 hi _ 0 [] rfl (World.ownsRow_made _ #[] 0 (Nat.zero_le _) (by decide) rfl) rfl ?_) | (go_at_call 15; ((with_reducible refine (add_nil _ _ _).mono ?_); rintro e w' ⟨rfl, rfl⟩)) | (go_at_call 16; ((with_reducible refine (radd_nil _ none 0).mono ?_); rintro e w' ⟨rfl, rfl⟩)) | (go_at_call 16; ((with_reducible refine (radd_two HS3.out _ _ (by simp) (by simp) (by simp)).mono ?_); rintro e w' ⟨rfl, rfl⟩)))
  go_ret
  exact ⟨rfl, (hk.trans (((Keeps.refl _).alloc (Nat.le_refl _) _).alloc (by simp) _))⟩

theorem adds_le_ok (x : Addr) (len cap : Nat) (zs : List Int) (hlen : len ≤ 100) (hl : zs.length = len) (a b : Int) (ha : validB a = true) (hb : validB b = true) (hab : b ≤ a) (w : World) (hz : SlInts .i64 w (some x) zs) (h : PowTab w) :
    Calls Tryd.prog 6 #[.slice (some x) len cap, .int .i64 a, .int .i64 b] w fun e w' => e = .returned (.bool true) ∧ Keeps w w' := by
  obtain ⟨s1, s2, s3⟩ := sub_good ha hb hab
  have hba := validB_of ha
  have hbb := validB_of hb
  have HS3 := Lib.hid s3; clear s3
  have HS1 := Lib.hid s1; have HS2 := Lib.hid s2; clear s1 s2
  have HL := Lib.hid hl
  obtain ⟨i0, hi, hz0, hz1, hz2⟩ := info_parts info2
  clear hl
  go_enter Tryd.func6, Tryd.ntmps6
  go_wp2_with (first | (go_at_call 7; refine (awake_any _ h).mono ?_; rintro e w1 ⟨rfl, hk⟩) | (go_at_call 10; refine (valid_any _ _).mono ?_; rintro e w' ⟨rfl, rfl⟩) | (go_at_call 17; refine (rvalid_any _ _).mono ?_; rintro e w' ⟨rfl, rfl⟩) | (go_at_call 18; refine (sub_any _ _ _).mono ?_; rw [HS1.out, HS2.out]; rintro e w' ⟨rfl, rfl⟩) | (at_builtin; go_must (refine wpList_append_own _ rfl _ _ 33 rfl w.heap.size 2 i0 (.int .i64 0) 1 8 Tryd.underlying33 hi hz0 hz1 hz2 rfl (by decide) _ 0 [] rfl (World.ownsRow_made _ #[] 0 hk.size (by decide) rfl) x len cap (zs.map (Value.int .i64)) rfl (by simp [HL.out]) (by exact ((hz.keeps hk).keeps ((Keeps.refl _).alloc (Nat.le_refl _) _)).news) (int_oneCell zs) (by unfold maxLen; omega) (by omega) (by have := hk.size; simp; omega) ?_); intro v' w2 hown hgrow hnn; go_must (obtain ⟨a', cap', rfl, hz', hl'⟩ := SlInts.of_owned hown (by intro hv; have hq : (Value.slice (some ⟨w1.heap.size, 0, none⟩) 0 0) = Value.slice none 0 0 := (hnn.1 hv).1; cases hq)); have hkg := grown_keeps hgrow; clear hl' hnn hown hgrow) | (go_at_call 15; ((with_reducible refine (add_any _ _ _ _ zs HL.out hz' (by omega)).mono ?_); rintro e w' ⟨rfl, rfl⟩)) | (go_at_call 16; ((with_reducible refine (radd_any _ _ _ _ zs HL.out ((hz.keeps hk).keeps hkg) (by omega)).mono ?_); rintro e w' ⟨rfl, rfl⟩)) | (go_at_call 16; ((with_reducible refine (radd_two HS3.out _ _ (by simp) (by simp) (by simp)).mono ?_); rintro e w' ⟨rfl, rfl⟩)))
  go_ret
  exact ⟨rfl, (hk.trans hkg).trans ((Keeps.refl _).alloc (Nat.le_refl _) _)⟩

theorem adds_gt_ok (x : Addr) (len cap : Nat) (zs : List Int) (hlen : 100 < len) (hcap : len ≤ cap) (hl : zs.length = 100) (a b : Int) (ha : validB a = true) (hb : validB b = true) (hab : b ≤ a) (w : World) (hz : SlInts .i64 w (some x) zs) (h : PowTab w) :
    Calls Tryd.prog 6 #[.slice (some x) len cap, .int .i64 a, .int .i64 b] w fun e w' => e = .returned (.bool true) ∧ Keeps w w' := by
  obtain ⟨s1, s2, s3⟩ := sub_good ha hb hab
  have hba := validB_of ha
  have hbb := validB_of hb
  have HS3 := Lib.hid s3; clear s3
  have HS1 := Lib.hid s1; have HS2 := Lib.hid s2; clear s1 s2
  have HL := Lib.hid hl
  obtain ⟨i0, hi, hz0, hz1, hz2⟩ := info_parts info2
  clear hl
  go_enter Tryd.func6, Tryd.ntmps6
  go_wp2_with (first | (go_at_call 7; refine (awake_any _ h).mono ?_; rintro e w1 ⟨rfl, hk⟩) | (go_at_call 10; refine (valid_any _ _).mono ?_; rintro e w' ⟨rfl, rfl⟩) | (go_at_call 17; refine (rvalid_any _ _).mono ?_; rintro e w' ⟨rfl, rfl⟩) | (go_at_call 18; refine (sub_any _ _ _).mono ?_; rw [HS1.out, HS2.out]; rintro e w' ⟨rfl, rfl⟩) | (at_builtin; go_must (refine wpList_append_own _ rfl _ _ 33 rfl w.heap.size 2 i0 (.int .i64 0) 1 8 Tryd.underlying33 hi hz0 hz1 hz2 rfl (by decide) _ 0 [] rfl (World.ownsRow_made _ #[] 0 hk.size (by decide) rfl) x 100 cap (zs.map (Value.int .i64)) rfl (by simp [HL.out]) (by exact ((hz.keeps hk).keeps ((Keeps.refl _).alloc (Nat.le_refl _) _)).news) (int_oneCell zs) (by unfold maxLen; omega) (by omega) (by have := hk.size; simp; omega) ?_); intro v' w2 hown hgrow hnn; go_must (obtain ⟨a', cap', rfl, hz', hl'⟩ := SlInts.of_owned hown (by intro hv; have hq : (Value.slice (some ⟨w1.heap.size, 0, none⟩) 0 0) = Value.slice none 0 0 := (hnn.1 hv).1; cases hq)); have hkg := grown_keeps hgrow; clear hl' hnn hown hgrow) | (go_at_call 15; ((with_reducible refine (add_any _ _ _ _ zs HL.out hz' (by omega)).mono ?_); rintro e w' ⟨rfl, rfl⟩)) | (go_at_call 16; ((with_reducible refine (radd_any _ _ _ _ zs HL.out ((hz.keeps hk).keeps hkg) (by omega)).mono ?_); rintro e w' ⟨rfl, rfl⟩)) | (go_at_call 16; ((with_reducible refine (radd_two HS3.out _ _ (by simp) (by simp) (by simp)).mono ?_); rintro e w' ⟨rfl, rfl⟩)))
  go_ret
  exact ⟨rfl, (hk.trans hkg).trans ((Keeps.refl _).alloc (Nat.le_refl _) _)⟩

theorem adds_walk_nil (a b : Int) (w : World) (h : PowTab w) :
    Calls Tryd.prog 6 #[.slice none 0 0, .int .i64 a, .int .i64 b] w fun e w' => e = .returned (.bool true) ∧ Keeps w w' := by
  by_cases ha : validB a = true
  · by_cases hb : validB b = true
    · by_cases hab : a < b
      · exact adds_nil_lt a b ha hb hab w h
      · exact adds_nil_ok a b ha hb (by omega) w h
    · exact adds_nil_vb a b ha (by simpa using hb) w h
  · exact adds_nil_va a b (by simpa using ha) w h
theorem adds_walk_some (x : Addr) (len cap : Nat) (hcap : len ≤ cap) (zs : List Int) (hl : zs.length = len) (a b : Int) (w : World) (hz : SlInts .i64 w (some x) zs) (h : PowTab w) :
    Calls Tryd.prog 6 #[.slice (some x) len cap, .int .i64 a, .int .i64 b] w fun e w' => e = .returned (.bool true) ∧ Keeps w w' := by
  by_cases hlen : len ≤ 100
  · by_cases ha : validB a = true
    · by_cases hb : validB b = true
      · by_cases hab : a < b
        · exact adds_le_lt x len cap zs hlen hl a b ha hb hab w hz h
        · exact adds_le_ok x len cap zs hlen hl a b ha hb (by omega) w hz h
      · exact adds_le_vb x len cap zs hlen hl a b ha (by simpa using hb) w hz h
    · exact adds_le_va x len cap zs hlen hl a b (by simpa using ha) w hz h
  · have hl' : (zs.take 100).length = 100 := by simp; omega
    have hz' := hz.take 100
    have hlen' : 100 < len := by omega
    by_cases ha : validB a = true
    · by_cases hb : validB b = true
      · by_cases hab : a < b
        · exact adds_gt_lt x len cap _ hlen' hcap hl' a b ha hb hab w hz' h
        · exact adds_gt_ok x len cap _ hlen' hcap hl' a b ha hb (by omega) w hz' h
      · exact adds_gt_vb x len cap _ hlen' hcap hl' a b ha (by simpa using hb) w hz' h
    · exact adds_gt_va x len cap _ hlen' hcap hl' a b (by simpa using ha) w hz' h
end Go.Proofs.YtgdbaejcbfofoaaDoor
