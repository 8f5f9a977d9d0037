/- strongboxlaw06.Told; two keys compared; strongboxlaw06.HdkeyMasters: the walk. No condition. -/
import Derived.Test.YthfepfpmkckdnaaDoorHkAwk
import Derived.Test.YthfepfpmkckdnaaDoorSpare
import Derived.Test.YthfepfpmkckdnaaDoorHTail
namespace Go.Proofs.YthfepfpmkckdnaaDoor
set_option linter.unusedVariables false
set_option linter.unusedSimpArgs false
open Go Go.RowKit

theorem hk_fold_set (off : Nat) : ∀ (new : List Value) (k : Nat) (pre olds post : List Value), olds.length = new.length → pre.length = off + k →
    (new.zipIdx k).foldl (fun (cs : Array Value) (x : Value × Nat) => cs.setIfInBounds (off + x.2) x.1) (pre ++ olds ++ post).toArray = (pre ++ new ++ post).toArray
  | [], k, pre, olds, post, h, _ => by
    obtain rfl : olds = [] := List.eq_nil_of_length_eq_zero (by simpa using h)
    rfl
  | v :: new, k, pre, [], post, h, _ => by simp at h
  | v :: new, k, pre, u :: olds, post, h, hp => by
    rw [List.zipIdx_cons, List.foldl_cons]
    have e : (pre ++ u :: olds ++ post).toArray.setIfInBounds (off + k) v = ((pre ++ [v]) ++ olds ++ post).toArray := by
      rw [List.setIfInBounds_toArray, ← hp]
      simp
    show List.foldl _ ((pre ++ u :: olds ++ post).toArray.setIfInBounds (off + k) v) _ = _
    rw [e, hk_fold_set off new (k + 1) (pre ++ [v]) olds post (by simpa using h) (by simp; omega)]
    simp
theorem hk_fill_at (place : Nat → Option (Nat × Nat)) (pre olds post new : List Value) (i : Nat) (v : Value) (rest : List (Nat × Value)) (hv : v.cells = new.toArray) (hl : olds.length = new.length) (hp : place i = some (pre.length, new.length)) :
    Instr.fill place (pre ++ olds ++ post).toArray ((i, v) :: rest) = Instr.fill place (pre ++ new ++ post).toArray rest := by
  have h0 := hk_fold_set pre.length new 0 pre olds post hl (by omega)
  rw [Instr.fill, hp]
  simp only [hv]
  rw [if_neg (by simp; omega)]
  congr 1
  rw [← h0, ← Array.foldl_toList]
  simp
theorem built_told_eq (parts : List (Nat × Value)) : Tryd.prog.built 35 parts = Instr.fill (([(0, 1), (1, 4), (5, 1), (6, 32), (38, 33)] : List (Nat × Nat)).toArray[·]?) (rootK Z32k Z32k).toArray parts := by kernel_rfl
theorem root_parts (cc z : List Int) : rootK cc z = [Value.int .u8 0] ++ (Z4.map (Value.int .u8) ++ ([Value.int .u32 0] ++ (cc.map (Value.int .u8) ++ (0 :: z).map (Value.int .u8)))) := by simp [rootK, keyCells]
theorem built_told (cc z : List Int) (h1 : cc.length = 32) (h2 : z.length = 32) : Tryd.prog.built 35 [(0, .int .u8 0), (1, .agg (Z4.map (Value.int .u8)).toArray), (2, .int .u32 0), (3, .agg (cc.map (Value.int .u8)).toArray), (4, .agg ((0 :: z).map (Value.int .u8)).toArray)] = some (rootK cc z).toArray := by
  rw [built_told_eq, root_parts Z32k Z32k, root_parts cc z]
  have hz4 : (Z4.map (Value.int .u8)).length = 4 := rfl
  have hzc : (Z32k.map (Value.int .u8)).length = 32 := rfl
  have hzd : ((0 :: Z32k).map (Value.int .u8)).length = 33 := rfl
  have hc : (cc.map (Value.int .u8)).length = 32 := by simp [h1]
  have hd : ((0 :: z).map (Value.int .u8)).length = 33 := by simp [h2]
  generalize Z4.map (Value.int .u8) = A at *
  generalize Z32k.map (Value.int .u8) = B at *
  generalize (0 :: Z32k).map (Value.int .u8) = C at *
  generalize cc.map (Value.int .u8) = CC at *
  generalize (0 :: z).map (Value.int .u8) = DD at *
  have s0 := hk_fill_at (([(0, 1), (1, 4), (5, 1), (6, 32), (38, 33)] : List (Nat × Nat)).toArray[·]?) [] [.int .u8 0] (A ++ ([.int .u32 0] ++ (B ++ C))) [.int .u8 0] 0 (.int .u8 0) [(1, .agg A.toArray), (2, .int .u32 0), (3, .agg CC.toArray), (4, .agg DD.toArray)] rfl rfl rfl
  have s1 := hk_fill_at (([(0, 1), (1, 4), (5, 1), (6, 32), (38, 33)] : List (Nat × Nat)).toArray[·]?) [.int .u8 0] A ([.int .u32 0] ++ (B ++ C)) A 1 (.agg A.toArray) [(2, .int .u32 0), (3, .agg CC.toArray), (4, .agg DD.toArray)] rfl rfl (by rw [hz4]; rfl)
  have s2 := hk_fill_at (([(0, 1), (1, 4), (5, 1), (6, 32), (38, 33)] : List (Nat × Nat)).toArray[·]?) ([.int .u8 0] ++ A) [.int .u32 0] (B ++ C) [.int .u32 0] 2 (.int .u32 0) [(3, .agg CC.toArray), (4, .agg DD.toArray)] rfl rfl (by rw [List.length_append, hz4]; rfl)
  have s3 := hk_fill_at (([(0, 1), (1, 4), (5, 1), (6, 32), (38, 33)] : List (Nat × Nat)).toArray[·]?) ([.int .u8 0] ++ A ++ [.int .u32 0]) B C CC 3 (.agg CC.toArray) [(4, .agg DD.toArray)] rfl (by rw [hzc, hc]) (by rw [List.length_append, List.length_append, hz4, hc]; rfl)
  have s4 := hk_fill_at (([(0, 1), (1, 4), (5, 1), (6, 32), (38, 33)] : List (Nat × Nat)).toArray[·]?) ([.int .u8 0] ++ A ++ [.int .u32 0] ++ CC) C [] DD 4 (.agg DD.toArray) [] rfl (by rw [hzd, hd]) (by rw [List.length_append, List.length_append, List.length_append, hz4, hc, hd]; rfl)
  simp only [List.append_assoc, List.nil_append, List.append_nil] at s0 s1 s2 s3 s4
  rw [s0, s1, s2, s3, s4]
  rfl
theorem sz_b4 : (Tryd.prog.info? 26).map (·.size) = some 4 := by kernel_rfl
theorem sz_b33 : (Tryd.prog.info? 29).map (·.size) = some 33 := by kernel_rfl
theorem root_rows {W : World} {p : Nat} {cc z : List Int} (h : Row W p 0 (rootK cc z)) (h1 : cc.length = 32) (h2 : z.length = 32) : W.cell? ⟨p, 0, none⟩ = some (.int .u8 0) ∧ Row W p 1 (Z4.map (Value.int .u8)) ∧ W.cell? ⟨p, 5, none⟩ = some (.int .u32 0) ∧ Row W p 6 (cc.map (Value.int .u8)) ∧ Row W p 38 ((0 :: z).map (Value.int .u8)) := by
  have e := root_parts cc z
  refine ⟨(h 0 _ rfl).1, ?_, (h 5 _ rfl).1, ?_, key_data h rfl h1⟩
  · have := (h.drop 1).take 4
    rwa [show ((rootK cc z).drop 1).take 4 = Z4.map (Value.int .u8) from rfl, Nat.zero_add] at this
  · have := (h.drop 6).take 32
    rwa [show (rootK cc z).drop 6 = cc.map (Value.int .u8) ++ (0 :: z).map (Value.int .u8) from rfl, List.take_left' (by simp [h1]), Nat.zero_add] at this
set_option maxRecDepth 100000 in
set_option maxHeartbeats 2000000 in
theorem told_any (cc z : List Int) (h1 : cc.length = 32) (h2 : z.length = 32) (w : World) : Calls Tryd.prog 9 #[.agg (rootK cc z).toArray] w fun e w' => e = .returned (.agg (rootK cc z).toArray) ∧ Keeps w w' := by
  have HB := Lib.hid (built_told cc z h1 h2)
  have HRW := Lib.hid (fun (W : World) (p : Nat) (hr : Row W p 0 (rootK cc z)) => root_rows hr h1 h2)
  have HSZ := Lib.hid (sz_rroot h1 h2)
  have HLN := Lib.hid (show (rootK cc z).length = (rootK Z32k Z32k).length by rw [rootK_length h1 h2]; rfl)
  have HON := Lib.hid (rootK_one cc z)
  have hz4 : (Z4.map (Value.int .u8)).length = 4 := rfl
  have hc : (cc.map (Value.int .u8)).length = 32 := by simp [h1]
  have hd : ((0 :: z).map (Value.int .u8)).length = 33 := by simp [h2]
  generalize Z4.map (Value.int .u8) = A at *
  generalize cc.map (Value.int .u8) = CC at *
  generalize (0 :: z).map (Value.int .u8) = DD at *
  generalize rootK cc z = K at *
  go_enter Tryd.func9, Tryd.ntmps9
  go_upto_region 1 with (fail)
  refine cu_rows2 (fun W hk hr hr2 hs => ?_)
  obtain ⟨c0, r1, c5, r6, r38⟩ := HRW.out _ _ (show Row W w.heap.size 0 K from by simpa using hr)
  have HZ := Lib.hid (show Row W (w.heap.size + 1) 0 (rootK Z32k Z32k) from hr2)
  have R1 := Lib.hid r1; have R6 := Lib.hid r6; have R38 := Lib.hid r38; have HK := Lib.hid hk
  clear hk hr hr2 hs r1 r6 r38
  generalize hp : w.heap.size = p at *
  have HP := Lib.hid hp
  clear hp
  go_wp2_with (first
    | (refine cu_load (by kernel_rfl) 26 (.tmp 5) rfl p 1 rfl _ _ R1.out Tryd.underlying26 rfl (by rw [hz4]; exact sz_b4) ?_)
    | (refine cu_load (by kernel_rfl) 28 (.tmp 9) rfl p 6 rfl _ _ R6.out Tryd.underlying28 rfl (by rw [hc]; exact sz_b32') ?_)
    | (refine cu_load (by kernel_rfl) 29 (.tmp 11) rfl p 38 rfl _ _ R38.out Tryd.underlying29 rfl (by rw [hd]; exact sz_b33) ?_)
    | (refine cu_build (by kernel_rfl) 35 _ rfl _ ?_ _ HB.out ?_; focus (simp only [List.map_toArray, List.map_cons, List.map_nil]; rfl))
    | (refine wpList_store_row rfl 35 (.tmp 2) (.tmp 13) rfl (p + 1) 0 rfl (rootK Z32k Z32k) K rfl HZ.out HLN.out HSZ.out HON.out ?_; intro w9 hr9 hc9; have H9 := Lib.hid hr9; have HC9 := Lib.hid hc9; clear hr9 hc9))
  exact bodyPost_ret (v := .agg K.toArray) (results_cell_at (p := 2) (ty := 35) rfl _ _ (p + 1) 0 _ _ rfl H9.out Tryd.underlying35 rfl HSZ.out) rfl ⟨rfl, nm_keeps_chg HK.out HC9.out (by have := HP.out; omega)⟩
theorem hk_lits1 (D : Nat) (t : TypeId) (k : IntKind) (x : Int) (hu : Tryd.prog.underlying t = some (.int k)) (hw : (Lit.int k x).wf = true) : Tryd.prog.keyLits (D + 1) t [.int k x] = some [.int k x] := by
  unfold Program.keyLits
  rw [hu]
  simp only [hw, and_self, if_true]
theorem wf_u8' {x : Int} (h : Byte x) : (Lit.int .u8 x).wf = true := by
  obtain ⟨h0, h1⟩ := h
  unfold Lit.wf
  rw [Bool.and_eq_true, decide_eq_true_eq, decide_eq_true_eq]
  exact ⟨show (0 : Int) ≤ x from h0, show x ≤ (255 : Int) by omega⟩
theorem root_lits (cc z : List Int) (h1 : cc.length = 32) (h2 : z.length = 32) (b1 : Bytes cc) (b2 : Bytes z) : ∃ L, Tryd.prog.keyLits 3 35 (rootK cc z) = some L := by
  have e1 : Tryd.prog.cellsOf 35 = 71 := by kernel_rfl
  have f0 : Tryd.prog.cellsOf 5 = 1 := by kernel_rfl
  have f1 : Tryd.prog.cellsOf 26 = 4 := by kernel_rfl
  have f2 : Tryd.prog.cellsOf 27 = 1 := by kernel_rfl
  have f3 : Tryd.prog.cellsOf 28 = 32 := by kernel_rfl
  have f4 : Tryd.prog.cellsOf 29 = 33 := by kernel_rfl
  have d0 : ((rootK cc z).drop 0).take 1 = [.int .u8 0] := rfl
  have d1 : ((rootK cc z).drop 1).take 4 = Z4.map (Value.int .u8) := rfl
  have d2 : ((rootK cc z).drop 5).take 1 = [.int .u32 0] := rfl
  have d3 : ((rootK cc z).drop 6).take 32 = cc.map (Value.int .u8) := by
    rw [show (rootK cc z).drop 6 = cc.map (Value.int .u8) ++ (0 :: z).map (Value.int .u8) from rfl, List.take_left' (by simp [h1])]
  have d4 : ((rootK cc z).drop 38).take 33 = (0 :: z).map (Value.int .u8) := by
    rw [show (rootK cc z).drop 38 = (0 :: z).map (Value.int .u8) from keyCells_data _ _ _ rfl h1, List.take_of_length_le (by simp [h2])]
  have b0 : Bytes Z4 := fun x hx => by rw [(List.mem_replicate.1 (show x ∈ List.replicate 4 0 from hx)).2]; exact ⟨by omega, by omega⟩
  have bz : Bytes (0 :: z) := fun x hx => by
    rcases List.mem_cons.1 hx with rfl | hx
    · exact ⟨by omega, by omega⟩
    · exact b2 x hx
  have l0 := hk_lits1 1 5 .u8 0 Tryd.underlying5 (wf_u8' ⟨by omega, by omega⟩)
  have l1 := arr_lits 0 26 5 4 .u8 Tryd.underlying26 Tryd.underlying5 f1 f0 Z4 rfl (fun x hx => wf_u8' (b0 x hx))
  have l2 := hk_lits1 1 27 .u32 0 Tryd.underlying27 (wf_u32' (by omega) (by omega))
  have l3 := arr_lits 0 28 5 32 .u8 Tryd.underlying28 Tryd.underlying5 f3 f0 cc h1 (fun x hx => wf_u8' (b1 x hx))
  have l4 := arr_lits 0 29 5 33 .u8 Tryd.underlying29 Tryd.underlying5 f4 f0 (0 :: z) (by simp [h2]) (fun x hx => wf_u8' (bz x hx))
  unfold Program.keyLits
  rw [Tryd.underlying35]
  simp only [e1]
  rw [if_pos ⟨rootK_length h1 h2, by kernel_rfl⟩]
  simp only [List.mapM_cons, List.mapM_nil, f0, f1, f2, f3, f4, d0, d1, d2, d3, d4]
  simp only [Nat.zero_add, Nat.reduceAdd] at l0 l1 l2 l3 l4
  simp only [l0, l1, l2, l3, l4]
  exact ⟨_, rfl⟩
theorem root_equal (W : World) (cc z : List Int) (h1 : cc.length = 32) (h2 : z.length = 32) (b1 : Bytes cc) (b2 : Bytes z) :
    (Op.equalIn 10000 35 (.agg (rootK cc z).toArray) (.agg (rootK cc z).toArray)).run Tryd.prog W = .ok true W := by
  have e1 : Tryd.prog.cellsOf 35 = 71 := by kernel_rfl
  have fm : (Value.agg (rootK cc z).toArray).formed Tryd.prog 35 = true := by
    unfold Value.formed
    rw [Tryd.underlying35]
    simp [e1, rootK_length h1 h2]
  obtain ⟨L, hL⟩ := root_lits cc z h1 h2 b1 b2
  have hd := run_equalIn_deep (P := Tryd.prog) 9996 4 35 (by kernel_rfl)
  obtain ⟨r, hr, hiff⟩ := hd W 3 3 _ _ L L fm fm hL hL
  rw [hr, hiff.2 rfl]
end Go.Proofs.YthfepfpmkckdnaaDoor
