/- strings.Builder's WriteString; hdkey.Path. No condition. -/
import Derived.Test.YthfepfpmkckdnaaDoorBuild
import Derived.Test.YthfepfpmkckdnaaDoorCuKit
import Derived.Laws.BitsAllLaws
import Derived.Lib.AppendStr
import Derived.Lib.ItoaNum
namespace Go.Proofs.YthfepfpmkckdnaaDoor
set_option linter.unusedVariables false
set_option linter.unusedSimpArgs false
open Go Go.RowKit Go.Shelf

set_option maxHeartbeats 2000000 in
set_option maxRecDepth 100000 in
theorem writeString_any (B b : Nat) (bs : List Value) (s : ByteArray) (w : World) (h : Lib.IsBuilder 54 5 B b bs w) (hlen : bs.length + s.size ≤ 140737488355328) (hBw : B ≤ w.heap.size) :
    Calls Tryd.prog 21 #[.pointer (some ⟨b, 0, none⟩), .string s] w fun e w' => e = .returned (.tuple #[.int .i64 s.size, .nilIface]) ∧ (Lib.BuilderAt 54 5 B b (.pointer (some ⟨b, 0, none⟩)) (bs ++ Lib.strCells s) w' ∧ Below B w w' ∧ w.heap.size ≤ w'.heap.size) := by
  obtain ⟨i0, hi, hz0, hz1, hz2⟩ := info_parts u8_info
  have hck := check_any B b bs w h
  go_enter Tryd.func21, Tryd.ntmps21
  go_wp2_with (go_at_call 36; refine hck.mono ?_)
  rintro e w1 ⟨rfl, h1, hb1, hk1, hs1⟩
  obtain ⟨hB, v, hbk, hown, hne⟩ := h1
  have c0 : w1.cell? ⟨b, 0, none⟩ = some (.pointer (some ⟨b, 0, none⟩)) := by rw [Lib.cell_of_heap hbk]; rfl
  have c1 : w1.cell? ⟨b, 1, none⟩ = some v := by rw [Lib.cell_of_heap hbk]; rfl
  go_wp2_with (at_builtin; refine Lib.wpList_append_own_string _ rfl _ _ 22 9 rfl B 5 i0 Tryd.underlying22 Tryd.underlying9 hi hz0 hz1 hz2 _ _ _ rfl hown s rfl ?c3 ?c4 ?c5 ?_)
  case c3 => unfold maxLen; omega
  case c4 => omega
  case c5 => have := hb1.size; omega
  intro v' w2 hown' hgrow _
  have hlt : b < w1.heap.size := by
    rcases Nat.lt_or_ge b w1.heap.size with h' | h'
    · exact h'
    · simp [Array.getElem?_eq_none h'] at hbk
  have hb2 : w2.heap[b]? = some (.cells #[.pointer (some ⟨b, 0, none⟩), v] 54 (0, 0)) := by
    rw [hgrow.block b hlt (fun e => hne e.symm)]
    exact hbk
  have d0 : w2.cell? ⟨b, 0, none⟩ = some (.pointer (some ⟨b, 0, none⟩)) := by rw [Lib.cell_of_heap hb2]; rfl
  have d1 : w2.cell? ⟨b, 1, none⟩ = some v := by rw [Lib.cell_of_heap hb2]; rfl
  have f1 : w2.frozen? ⟨b, 1, none⟩ = false := Lib.frozen_of_heap hb2 1
  obtain ⟨ao, n', cap, rfl⟩ : ∃ ao n' cap, v' = .slice ao n' cap := by
    rcases hown'.2 with ⟨hv, _⟩ | ⟨g, cap, cur, hv, _⟩
    · exact ⟨_, _, _, hv⟩
    · exact ⟨_, _, _, hv⟩
  go_wp2
  go_ret2
  refine ⟨rfl, ?_, ?_, ?_⟩
  · exact Lib.BuilderAt.put (T := 54) (e := 5) hB hb2 (bs' := bs ++ Lib.strCells s) (by simpa [Lib.strCells_length] using hown') (by decide)
  · exact (hb1.grown hgrow (by have := hb1.size; omega) (fun k hk => (hown.lt k hk).1)).setCell (p := ⟨b, 1, none⟩) hB _
  · have := hgrow.size; simp at this ⊢; omega
/-- a step's number, a step, a path, as text -/
def numT (x : Int) : List UInt8 := Lib.decDigits (x % 2147483648).toNat
def stepT (x : Int) : List UInt8 := 47 :: (numT x ++ (if 2147483648 ≤ x then [39] else []))
def pathT (l : List Int) : List UInt8 := 109 :: l.flatMap stepT
theorem stepT_hard {x : Int} (h : 2147483648 ≤ x) : stepT x = 47 :: numT x ++ [39] := by unfold stepT; rw [if_pos h]; rfl
theorem stepT_soft {x : Int} (h : ¬ 2147483648 ≤ x) : stepT x = 47 :: numT x := by unfold stepT; rw [if_neg h]; simp
theorem and_hard {x : Int} (h0 : 0 ≤ x) (h1 : x < 4294967296) : bits .andNot .u32 x 2147483648 = x % 2147483648 := by
  rw [u32_andNot x 2147483648 h0 h1 (by omega) (by omega)]
  have e : (4294967295 - (2147483648 : Int).toNat : Nat) = 2 ^ 31 - 1 := by decide
  rw [e, Nat.and_two_pow_sub_one_eq_mod]
  omega
theorem flat_prefix {α : Type} (f : α → List UInt8) (l : List α) (i : Nat) : ((l.take i).flatMap f).length ≤ (l.flatMap f).length := by
  have : l.flatMap f = (l.take i).flatMap f ++ (l.drop i).flatMap f := by rw [← List.flatMap_append, List.take_append_drop]
  rw [this, List.length_append]; omega
theorem take_step (l : List Int) (i : Nat) (h : i < l.length) : (l.take (i + 1)).flatMap stepT = (l.take i).flatMap stepT ++ stepT (l.getD i 0) := by
  rw [List.take_succ_eq_append_getElem h, List.flatMap_append]
  simp [List.getD, h]
theorem byteCells_append (a b : List UInt8) : Lib.byteCells (a ++ b) = Lib.byteCells a ++ Lib.byteCells b := by simp [Lib.byteCells]
theorem strCells_of (l : List UInt8) : Lib.strCells ⟨l.toArray⟩ = Lib.byteCells l := rfl
set_option maxHeartbeats 2000000 in
set_option maxRecDepth 100000 in
theorem path_any (v : Value) (n : Nat) (l : List Int) (w : World) (hr : Rd w 1 v n (l.map (Value.int .u32))) (hln : l.length = n) (hx : ∀ x ∈ l, 0 ≤ x ∧ x < 4294967296) (hn : (pathT l).length ≤ 1000000) (hn2 : n ≤ 1000000)
    (hf : ∀ x ∈ l, ∀ W, Calls Tryd.prog 22 #[.int .u64 (x % 2147483648), .int .i64 10] W fun e w' => e = .returned (.string ⟨(numT x).toArray⟩) ∧ w' = W) :
    Calls Tryd.prog 11 #[v] w fun e w' => e = .returned (.string ⟨(pathT l).toArray⟩) ∧ Keeps w w' := by
  obtain ⟨a, cap, rfl⟩ : ∃ a c, v = .slice a n c := by obtain ⟨_, a, c, e, _⟩ := hr; exact ⟨a, c, e⟩
  have hcell : ∀ i, i < n → ∃ g off, a = some ⟨g, off, none⟩ ∧ ∀ W, Keeps w W → W.cell? ⟨g, off + i, none⟩ = some (.int .u32 (l.getD i 0)) := fun i hi => by
    obtain ⟨_, a', cap', e, h2, h3, h4, h5⟩ := hr
    cases e
    cases a with
    | none => have := (h4 rfl).1; omega
    | some ad =>
      obtain ⟨g, off, rfl, hg, hrow⟩ := h5 ad rfl (by omega)
      exact ⟨g, off, rfl, fun W hk => (hrow.keeps hk).int i (by omega)⟩
  have HCELL := Lib.hid hcell; have HLN := Lib.hid hln; have HX := Lib.hid hx; have HF := Lib.hid hf; have HN := Lib.hid hn
  clear hr hcell hln hx hf hn
  obtain ⟨P, hP⟩ : ∃ P, P = pathT l := ⟨_, rfl⟩
  rw [← hP]
  have HP := Lib.hid hP
  clear hP
  go_enter Tryd.func11, Tryd.ntmps11
  go_upto_region 2 with (fail)
  refine wp_gen (fun W => Keeps w W ∧ Lib.IsBuilder 54 5 w.heap.size w.heap.size (Lib.byteCells []) W ∧ w.heap.size < W.heap.size) ⟨nm_keeps_alloc (Keeps.refl w) _, Lib.fresh_isBuilder 54 5 w, by simp⟩ ?_
  intro W0 ⟨hk0, hb0, hs0⟩
  have HK0 := Lib.hid hk0; have HB0 := Lib.hid hb0; have HS0 := Lib.hid hs0
  clear hk0 hb0 hs0
  obtain ⟨b, hbe⟩ : ∃ b, b = w.heap.size := ⟨_, rfl⟩
  rw [← hbe] at HB0 HS0 ⊢
  have HBE := Lib.hid hbe
  clear hbe
  go_upto_region 3 with (go_at_call 20; refine (writeByte_any b b _ 109 W0 HB0.out (by simp [Lib.byteCells]) (Nat.le_of_lt HS0.out)).mono ?_; rintro e W1 ⟨rfl, hb1, hbl1, -, hs1⟩; have HB1 := Lib.hid hb1; have HBL1 := Lib.hid hbl1; have HS1 := Lib.hid hs1; clear hb1 hbl1 hs1)
  have hk1 : Below b w W1 := Below.trans (by have := HK0.out; rw [HBE.out]; exact this) HBL1.out
  have HK1 := Lib.hid hk1
  have HW1 := Lib.hid (Nat.lt_of_lt_of_le HS0.out HS1.out)
  clear hk1 HB0 HBL1 HS0 HS1 HK0
  go_wp2
  go_loopw [5, 9] (fun _ c wr => ∃ i : Nat, i ≤ n ∧ c = .int .i64 i ∧ Hid (Below b w wr) ∧ Hid (Lib.IsBuilder 54 5 b b (Lib.byteCells (109 :: (l.take i).flatMap stepT)) wr) ∧ Hid (b < wr.heap.size)) (fun _ c _ => (n - intOf c).toNat)
  case atStart => exact ⟨0, by omega, rfl, HK1, Lib.hid (.inr HB1.out), HW1⟩
  case round =>
    obtain ⟨i, hi, rfl, HKR, HBR, HSR⟩ := hrel
    by_cases hlt : i < n
    · obtain ⟨g, off, rfl, hc⟩ := HCELL.out i hlt
      have hil : i < l.length := by rw [HLN.out]; exact hlt
      have hxm : l.getD i 0 ∈ l := by
        have : l.getD i 0 = l[i] := by simp [List.getD, hil]
        rw [this]; exact List.getElem_mem hil
      have cz := hc wr (by have := HKR.out; rw [HBE.out] at this; exact this)
      obtain ⟨x0, x1⟩ := HX.out _ hxm
      have HFX := Lib.hid (HF.out _ hxm)
      have HTS := Lib.hid (take_step l i hil)
      have hlen := flat_prefix stepT l (i + 1)
      rw [HTS.out] at hlen
      have hlen2 : (109 :: ((l.take i).flatMap stepT ++ stepT (l.getD i 0))).length ≤ 1000000 := by
        have := HN.out; unfold pathT at this; simp only [List.length_cons] at this ⊢; omega
      have HLEN := Lib.hid hlen2
      clear hlen hlen2 hc hxm hil
      generalize (l.take i).flatMap stepT = T at *
      generalize l.getD i 0 = x at *
      have hand := and_hard x0 x1
      have hm0 : 0 ≤ x % 2147483648 := by omega
      have hm1 : x % 2147483648 < 2147483648 := by omega
      have hsn : (ByteArray.mk #[47] ++ ByteArray.mk (numT x).toArray) = ByteArray.mk (47 :: numT x).toArray := by
        apply ByteArray.ext; simp
      generalize x % 2147483648 = y at *
      by_cases hh : 2147483648 ≤ x
      · rw [stepT_hard hh] at HTS HLEN
        have hnl : ¬ 9223372036854775807 < 1 + (numT x).length := by have := HLEN.out; simp at this; omega
        go_upto_region 7 with (first
          | (go_at_call 22; refine (HFX.out _).mono ?_; rintro e W2 ⟨rfl, rfl⟩)
          | (go_at_call 21; refine (writeString_any b b _ ⟨(47 :: numT x).toArray⟩ _ HBR.out (by have := HLEN.out; simp [Lib.byteCells, ByteArray.size] at this ⊢; omega) (Nat.le_of_lt HSR.out)).mono ?_; rintro e W3 ⟨rfl, hb3, hbl3, hs3⟩; have HB3 := Lib.hid hb3; have HBL3 := Lib.hid hbl3; have HS3 := Lib.hid hs3; clear hb3 hbl3 hs3))
        clear hnl
        go_wp2_with (go_at_call 20; refine (writeByte_any b b _ 39 W3 (.inr HB3.out) (by have := HLEN.out; simp [Lib.byteCells, strCells_of] at this ⊢; omega) (Nat.le_of_lt (Nat.lt_of_lt_of_le HSR.out HS3.out))).mono ?_; rintro e W4 ⟨rfl, hb4, hbl4, -, hs4⟩; have HB4 := Lib.hid hb4; have HBL4 := Lib.hid hbl4; have HS4 := Lib.hid hs4; clear hb4 hbl4 hs4)
        go_roundw
        case rel =>
          refine ⟨i + 1, by omega, by go_num, Lib.hid ((HKR.out.trans HBL3.out).trans HBL4.out), Lib.hid (.inr ?_), Lib.hid (Nat.lt_of_lt_of_le HSR.out (Nat.le_trans HS3.out HS4.out))⟩
          rw [HTS.out]
          have h := HB4.out
          rw [strCells_of, ← byteCells_append] at h
          have e : Lib.byteCells (109 :: T ++ 47 :: numT x) ++ [Value.int .u8 39] = Lib.byteCells (109 :: (T ++ (47 :: numT x ++ [39]))) := by
            rw [show [Value.int .u8 39] = Lib.byteCells [39] from rfl, ← byteCells_append]; simp
          rw [e] at h
          exact h
        case measure => simp [intOf]; omega
      · rw [stepT_soft hh] at HTS HLEN
        have hnl : ¬ 9223372036854775807 < 1 + (numT x).length := by have := HLEN.out; simp at this; omega
        go_upto_region 7 with (first
          | (go_at_call 22; refine (HFX.out _).mono ?_; rintro e W2 ⟨rfl, rfl⟩)
          | (go_at_call 21; refine (writeString_any b b _ ⟨(47 :: numT x).toArray⟩ _ HBR.out (by have := HLEN.out; simp [Lib.byteCells, ByteArray.size] at this ⊢; omega) (Nat.le_of_lt HSR.out)).mono ?_; rintro e W3 ⟨rfl, hb3, hbl3, hs3⟩; have HB3 := Lib.hid hb3; have HBL3 := Lib.hid hbl3; have HS3 := Lib.hid hs3; clear hb3 hbl3 hs3))
        clear hnl
        go_wp2
        go_roundw
        case rel =>
          refine ⟨i + 1, by omega, by go_num, Lib.hid (HKR.out.trans HBL3.out), Lib.hid (.inr ?_), Lib.hid (Nat.lt_of_lt_of_le HSR.out HS3.out)⟩
          rw [HTS.out]
          have h := HB3.out
          rw [strCells_of, ← byteCells_append] at h
          exact h
        case measure => simp [intOf]; omega
    · obtain rfl : i = n := by omega
      rw [List.take_of_length_le (by rw [HLN.out]; exact Nat.le_refl _)] at HBR
      have hpt : 109 :: l.flatMap stepT = pathT l := rfl
      rw [hpt, ← HP.out] at HBR
      clear hpt
      go_wp2_with (go_at_call 23; refine (Tryd.Builder_String_any b b P wr HBR.out (Nat.le_of_lt HSR.out)).mono ?_; rintro e W5 ⟨rfl, hbl5⟩; have HBL5 := Lib.hid hbl5; clear hbl5)
      go_ret
      exact ⟨rfl, by have := HKR.out.trans HBL5.out; rw [HBE.out] at this; exact this⟩
end Go.Proofs.YthfepfpmkckdnaaDoor
