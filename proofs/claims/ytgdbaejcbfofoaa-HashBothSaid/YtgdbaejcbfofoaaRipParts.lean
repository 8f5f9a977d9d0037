/- Parts of hash.Ripemd: the two tables of lines, slices.Reverse at eight bytes, the tail turned. -/
import Derived.Test.YtgdbaejcbfofoaaRipLine
import Derived.Great.BuildSlice
import Derived.BigRegion
namespace Go.Proofs.Ytgdbaejcbfofoaa.Rip
set_option linter.unusedVariables false
set_option linter.unusedSimpArgs false
open Go Go.RowKit

theorem wpList_build_at {P : Program} {ops : Array Oper} {rest : List Oper} {o : Oper} {a : Act} {w : World} {Q : Exit → Act → World → Prop} (hg : o.guard = none) (t : TypeId) (parts : Array (Nat × Operand)) (ho : o.op = .build t parts) (vs : List (Nat × Value)) (hv : (parts.map fun (i, x) => (i, a.eval x)).toList = vs) (out : Array Value)
    (hb : P.built t vs = some out) (h : wpList P ops Q rest (a.put o.dst (.agg out)) w) : wpList P ops Q (o :: rest) a w := by
  subst hv
  refine wpList_plain hg fun _ hK => ?_
  unfold Oper.wp execOp
  simp only [ho, Sem.run_bind, run_build w t _ _ hb, Result.andThen_ok]
  exact hK _ _ h
theorem builtL : Try.prog.built 136 [(0, .agg ((ints rL).map (Value.int .i64)).toArray), (1, .agg ((ints sL).map (Value.int .i64)).toArray), (2, .agg (kL.map (Value.int .u32)).toArray)] = some (roundsV rL sL kL).toArray := by kernel_rfl
theorem builtR : Try.prog.built 136 [(0, .agg ((ints rR).map (Value.int .i64)).toArray), (1, .agg ((ints sR).map (Value.int .i64)).toArray), (2, .agg (kR.map (Value.int .u32)).toArray)] = some (roundsV rR sR kR).toArray := by kernel_rfl
theorem sz_rounds : (Try.prog.info? 136).map (·.size) = some 165 := by kernel_rfl
theorem sz80 : (Try.prog.info? 134).map (·.size) = some 80 := by kernel_rfl
theorem sz_int : (Try.prog.info? 3).map (·.size) = some 1 := by kernel_rfl
theorem zeroLen : Try.zeroCells136.toList.length = 165 := by kernel_rfl
theorem rounds_one (rt st : List Nat) (kt : List Int) : ∀ v ∈ roundsV rt st kt, v.oneCell' = true := by
  intro v hv
  simp only [roundsV, List.mem_append, List.mem_map] at hv
  rcases hv with ⟨_, _, rfl⟩ | ⟨_, _, rfl⟩ | ⟨_, _, rfl⟩ <;> rfl
set_option maxHeartbeats 400000 in
set_option maxRecDepth 100000 in
theorem left_any (w : World) : Calls Try.prog 98 #[] w fun e w' => e = .returned (.agg (roundsV rL sL kL).toArray) ∧ Keeps w w' := by
  have HB := Lib.hid builtL
  have Z : Hid ((Try.prog.info? 136).map (·.size) = some (roundsV rL sL kL).length) := by rw [roundsV_length tabL]; exact Lib.hid sz_rounds
  go_enter Try.func98, Try.ntmps98
  go_upto_region 1 with (fail)
  refine wp_gen (fun W => Keeps w W ∧ Row W w.heap.size 0 Try.zeroCells136.toList) ⟨keeps_alloc (Keeps.refl w) _, Row.new Try.zeroCells136.toList _ _ Array.toArray_toList.symm⟩ ?_
  intro W1 ⟨hk1, hr1⟩
  have HK1 := Lib.hid hk1; have HR1 := Lib.hid hr1
  clear hk1 hr1
  go_wp2_with (first | (refine wpList_buildFlatArrTo rfl 134 3 80 _ rfl .i64 (ints rL) (some 1) rfl Try.underlying134 sz_int (by kernel_rfl) (by kernel_rfl) ?_; simp only [Act.put, List.setIfInBounds_toArray, List.set_cons_zero, List.set_cons_succ]) | (refine wpList_buildFlatArrTo rfl 134 3 80 _ rfl .i64 (ints sL) (some 2) rfl Try.underlying134 sz_int (by kernel_rfl) (by kernel_rfl) ?_; simp only [Act.put, List.setIfInBounds_toArray, List.set_cons_zero, List.set_cons_succ]) | (refine wpList_buildFlatArrTo rfl 132 26 5 _ rfl .u32 kL (some 3) rfl Try.underlying132 sz_u32 (by kernel_rfl) (by kernel_rfl) ?_; simp only [Act.put, List.setIfInBounds_toArray, List.set_cons_zero, List.set_cons_succ]) | (refine wpList_build_at rfl 136 _ rfl [(0, .agg ((ints rL).map (Value.int .i64)).toArray), (1, .agg ((ints sL).map (Value.int .i64)).toArray), (2, .agg (kL.map (Value.int .u32)).toArray)] (by kernel_rfl) _ HB.out ?_; simp only [Act.put, List.setIfInBounds_toArray, List.set_cons_zero, List.set_cons_succ]) | (refine wpList_store_row rfl 136 (.tmp 0) (.tmp 4) rfl w.heap.size 0 rfl Try.zeroCells136.toList (roundsV rL sL kL) rfl HR1.out (by rw [roundsV_length tabL, zeroLen]) Z.out (rounds_one _ _ _) ?_; intro W2 hr2 hc2; have HR2 := Lib.hid hr2; have HC2 := Lib.hid hc2; clear hr2 hc2))
  exact bodyPost_ret (v := .agg (roundsV rL sL kL).toArray) (results_cell_at (p := 0) (ty := 136) (by kernel_rfl) _ _ w.heap.size 0 _ _ rfl HR2.out Try.underlying136 rfl Z.out) rfl ⟨rfl, keeps_chg HK1.out HC2.out (Nat.le_refl _)⟩
set_option maxHeartbeats 400000 in
set_option maxRecDepth 100000 in
theorem right_any (w : World) : Calls Try.prog 99 #[] w fun e w' => e = .returned (.agg (roundsV rR sR kR).toArray) ∧ Keeps w w' := by
  have HB := Lib.hid builtR
  have Z : Hid ((Try.prog.info? 136).map (·.size) = some (roundsV rR sR kR).length) := by rw [roundsV_length tabR]; exact Lib.hid sz_rounds
  go_enter Try.func99, Try.ntmps99
  go_upto_region 1 with (fail)
  refine wp_gen (fun W => Keeps w W ∧ Row W w.heap.size 0 Try.zeroCells136.toList) ⟨keeps_alloc (Keeps.refl w) _, Row.new Try.zeroCells136.toList _ _ Array.toArray_toList.symm⟩ ?_
  intro W1 ⟨hk1, hr1⟩
  have HK1 := Lib.hid hk1; have HR1 := Lib.hid hr1
  clear hk1 hr1
  go_wp2_with (first | (refine wpList_buildFlatArrTo rfl 134 3 80 _ rfl .i64 (ints rR) (some 1) rfl Try.underlying134 sz_int (by kernel_rfl) (by kernel_rfl) ?_; simp only [Act.put, List.setIfInBounds_toArray, List.set_cons_zero, List.set_cons_succ]) | (refine wpList_buildFlatArrTo rfl 134 3 80 _ rfl .i64 (ints sR) (some 2) rfl Try.underlying134 sz_int (by kernel_rfl) (by kernel_rfl) ?_; simp only [Act.put, List.setIfInBounds_toArray, List.set_cons_zero, List.set_cons_succ]) | (refine wpList_buildFlatArrTo rfl 132 26 5 _ rfl .u32 kR (some 3) rfl Try.underlying132 sz_u32 (by kernel_rfl) (by kernel_rfl) ?_; simp only [Act.put, List.setIfInBounds_toArray, List.set_cons_zero, List.set_cons_succ]) | (refine wpList_build_at rfl 136 _ rfl [(0, .agg ((ints rR).map (Value.int .i64)).toArray), (1, .agg ((ints sR).map (Value.int .i64)).toArray), (2, .agg (kR.map (Value.int .u32)).toArray)] (by kernel_rfl) _ HB.out ?_; simp only [Act.put, List.setIfInBounds_toArray, List.set_cons_zero, List.set_cons_succ]) | (refine wpList_store_row rfl 136 (.tmp 0) (.tmp 4) rfl w.heap.size 0 rfl Try.zeroCells136.toList (roundsV rR sR kR) rfl HR1.out (by rw [roundsV_length tabR, zeroLen]) Z.out (rounds_one _ _ _) ?_; intro W2 hr2 hc2; have HR2 := Lib.hid hr2; have HC2 := Lib.hid hc2; clear hr2 hc2))
  exact bodyPost_ret (v := .agg (roundsV rR sR kR).toArray) (results_cell_at (p := 0) (ty := 136) (by kernel_rfl) _ _ w.heap.size 0 _ _ rfl HR2.out Try.underlying136 rfl Z.out) rfl ⟨rfl, keeps_chg HK1.out HC2.out (Nat.le_refl _)⟩
/-- the first k and the last k of eight exchanged -/
def rv (x0 x1 x2 x3 x4 x5 x6 x7 : Int) : Nat → List Int
  | 0 => [x0, x1, x2, x3, x4, x5, x6, x7]
  | 1 => [x7, x1, x2, x3, x4, x5, x6, x0]
  | 2 => [x7, x6, x2, x3, x4, x5, x1, x0]
  | 3 => [x7, x6, x5, x3, x4, x2, x1, x0]
  | _ => [x7, x6, x5, x4, x3, x2, x1, x0]
theorem rv_length (x0 x1 x2 x3 x4 x5 x6 x7 : Int) (k : Nat) : (rv x0 x1 x2 x3 x4 x5 x6 x7 k).length = 8 := by unfold rv; split <;> rfl
theorem rv_step (x0 x1 x2 x3 x4 x5 x6 x7 : Int) (k : Nat) (hk : k < 4) : ((rv x0 x1 x2 x3 x4 x5 x6 x7 k).set k ((rv x0 x1 x2 x3 x4 x5 x6 x7 k).getD (7 - k) 0)).set (7 - k) ((rv x0 x1 x2 x3 x4 x5 x6 x7 k).getD k 0) = rv x0 x1 x2 x3 x4 x5 x6 x7 (k + 1) := by
  have : k = 0 ∨ k = 1 ∨ k = 2 ∨ k = 3 := by omega
  rcases this with rfl | rfl | rfl | rfl <;> rfl
set_option maxHeartbeats 400000 in
set_option maxRecDepth 100000 in
theorem reverse8 (g off cap : Nat) (hc : 8 ≤ cap) (hc2 : cap ≤ maxLen) (x0 x1 x2 x3 x4 x5 x6 x7 : Int) (w : World) (hr : Row w g off ([x0, x1, x2, x3, x4, x5, x6, x7].map (Value.int .u8))) :
    Calls Try.prog 97 #[.slice (some ⟨g, off, none⟩) 8 cap] w fun e w' => e = .returned (.tuple #[]) ∧ Chg (· = g) w w' ∧ Row w' g off ([x7, x6, x5, x4, x3, x2, x1, x0].map (Value.int .u8)) ∧ Beside w w' g off 8 := by
  unfold maxLen at hc2
  have HR := Lib.hid (show Row w g off ((rv x0 x1 x2 x3 x4 x5 x6 x7 0).map (Value.int .u8)) from hr)
  have HE := Lib.hid (show rv x0 x1 x2 x3 x4 x5 x6 x7 4 = [x7, x6, x5, x4, x3, x2, x1, x0] from rfl)
  have HL := Lib.hid (rv_length x0 x1 x2 x3 x4 x5 x6 x7)
  have HS := Lib.hid (rv_step x0 x1 x2 x3 x4 x5 x6 x7)
  clear hr
  generalize rv x0 x1 x2 x3 x4 x5 x6 x7 = rvl at *
  go_enter Try.func97, Try.ntmps97
  go_wp2
  go_loopw [2, 3] (fun ci cj wr => ∃ k : Nat, k ≤ 4 ∧ ci = .int .i64 k ∧ cj = .int .i64 (7 - (k : Int)) ∧ Chg (· = g) w wr ∧ Row wr g off ((rvl k).map (Value.int .u8)) ∧ Hid (Beside w wr g off 8)) (fun ci _ _ => (4 - intOf ci).toNat)
  case atStart => exact ⟨0, by omega, rfl, rfl, Chg.refl _ _, HR.out, Lib.hid (Beside.of_block rfl _ _)⟩
  case round =>
    obtain ⟨k, hk, rfl, rfl, hch, hrt, hbs⟩ := hrel
    by_cases hlt : k < 4
    · have c1 := hrt.int k (by rw [HL.out]; omega)
      have c2 := hrt.int (7 - k) (by rw [HL.out]; omega)
      have f1 := hrt.free k (by rw [List.length_map, HL.out]; omega)
      have f2 := hrt.free (7 - k) (by rw [List.length_map, HL.out]; omega)
      have hset := (hrt.setInt k (by rw [HL.out]; omega) ((rvl k).getD (7 - k) 0)).setInt (7 - k) (by rw [List.length_set, HL.out]; omega) ((rvl k).getD k 0)
      rw [HS.out k hlt] at hset
      have hbs2 := Beside.trans (Beside.trans hbs.out (Beside.setCell (o := off) (n := 8) (i := k) (by omega) (.int .u8 ((rvl k).getD (7 - k) 0)))) (Beside.setCell (o := off) (n := 8) (i := 7 - k) (by omega) (.int .u8 ((rvl k).getD k 0)))
      have HSET := Lib.hid hset; have HCH := Lib.hid hch; have HBS := Lib.hid hbs2
      clear hset hch hrt hbs hbs2
      generalize (rvl k).getD k 0 = y1 at *
      generalize (rvl k).getD (7 - k) 0 = y2 at *
      have hn7 : ((7 - k : Nat) : Int) = 7 - (k : Int) := by omega
      go_wp2
      go_region
      go_wp2
      go_roundw
      case rel => exact ⟨k + 1, by omega, by go_num, by go_num, ((HCH.out.setCell (.inr rfl) _).setCell (.inr rfl) _).drew, HSET.out.drew, Lib.hid (HBS.out.trans (Beside.of_block rfl _ _))⟩
      case measure => simp [intOf]; omega
    · obtain rfl : k = 4 := by omega
      rw [HE.out] at hrt
      have HRT := Lib.hid hrt; have HCH := Lib.hid hch
      clear hrt hch
      go_wp2
      go_end0
      exact ⟨rfl, HCH.out, HRT.out, hbs.out⟩
end Go.Proofs.Ytgdbaejcbfofoaa.Rip
