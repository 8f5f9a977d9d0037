/- The reference's AddPublic. No condition. | strongboxlaw05.CurvePublics: the walk. No condition. | strongboxlaw05.CurveAdds: the walk. No condition. | strongboxlaw05.CurveAgrees: the walk. No condition. | hdkey's keys: which are private, their secret, whether they are any. No condition. | strings.Builder's copyCheck and WriteByte at a builder that the function has made itself. (The shelf's layings of these fall at this dump: the loader has refused the branch that panics.) | slices.Backward at bytes: what the range over it is handed, from the last on. No condition but that the slice isn't nil. -/
import Derived.Test.YtlofddoojkeakaaDoorGC7
import Derived.Test.YtlofddoojkeakaaDoorGC6
import Derived.Test.YtlofddoojkeakaaDoorGB2
import Derived.Test.YtlofddoojkeakaaDoorGA9
import Derived.Laws.CopyOwn
import Derived.Laws.Cover3
import Derived.Test.YtlofddoojkeakaaDoorGB1
import Derived.Test.YtlofddoojkeakaaDoorGA3
import Derived.Lib.OthersKept
import Derived.Laws.Externs
import Derived.RangeFuncNested
import Derived.RangeFuncBound
import Derived.RangeFuncCalls
import Derived.RangeFuncLeaves
import Derived.RangeFuncWrites
import Derived.RangeFuncBox
import Derived.Shelf.Abstract
import Derived.WalkKit
import Derived.OwnWalkIn
import Derived.TacticsInMore
import Derived.LoopNIn
import Derived.LoopIn
namespace Go.Proofs.YtlofddoojkeakaaDoor
set_option linter.unusedVariables false
set_option linter.unusedSimpArgs false
open Go Go.RowKit Cv

/-- the public key of a key, and a number's point added -/
theorem agree {x t : Int} (hx : keyB x = true) (h0 : 0 ≤ t) (h1 : t < NV) : addPV (pubV x) t = if (x + t) % NV = 0 then (zeroL33, 7) else (pubB ((x + t) % NV).toNat, 0) := by
  have hk := key_lt hx
  have hn := nv_eq
  obtain ⟨n1, n2, n3⟩ := nv_toNat h0 h1
  obtain ⟨a, b, hu, ha, hb, hon, hm⟩ := unp_pub (k := x.toNat) (by omega) (by omega)
  have hok : (J.mk a b 1).ok := ⟨ha, hb, (by decide : 1 < PVn)⟩
  have hjr := addJ_jr hok (timesJ_ok t.toNat gJ_ok 256) (P := .aff (fp a) (fp b)) (Q := mulP gP t.toNat) hon (gmul_on _) aff_jr (times_n gJ_ok g_on gJ_jr n1)
  have hsok := addJ_ok hok (timesJ_ok t.toNat gJ_ok 256)
  rw [← hm, ← mul_add good_p g_on, ← mul_mod] at hjr
  have h5 : (((x.toNat + t.toNat) % nVn : Nat) : Int) = (x + t) % NV := by rw [Int.natCast_emod, Int.natCast_add, Int.toNat_of_nonneg (by omega), n3, hn]
  have hmod : (x.toNat + t.toNat) % nVn = ((x + t) % NV).toNat := by rw [← h5, Int.toNat_natCast]
  rw [hmod] at hjr
  have hpv : pubV x = pubB x.toNat := by unfold pubV; rw [if_pos hx]
  have hlt : ((x + t) % NV).toNat < nVn := by
    have := Int.emod_lt_of_pos (x + t) (show 0 < NV by decide)
    have := Int.emod_nonneg (x + t) (show NV ≠ 0 by decide)
    omega
  unfold addPV
  rw [if_pos h1, hpv, hu]
  dsimp only
  by_cases hz : (x + t) % NV = 0
  · rw [if_pos hz]
    have : (addJ ⟨a, b, 1⟩ (timesJ t.toNat gJ 256)).z = 0 := (jr_z hsok hjr).2 (mul_z.2 (by rw [hz]; decide))
    rw [if_pos this]
  · rw [if_neg hz]
    have hne : ¬ (addJ ⟨a, b, 1⟩ (timesJ t.toNat gJ 256)).z = 0 := fun h => by
      have := mul_z.1 ((jr_z hsok hjr).1 h)
      rw [Nat.mod_eq_of_lt hlt] at this
      have h3 := Int.emod_nonneg (x + t) (show NV ≠ 0 by decide)
      omega
    rw [if_neg hne]
    unfold pubB
    rw [flatJ_eq hsok hjr, flatJ_eq (timesJ_ok _ gJ_ok 256) (times_n gJ_ok g_on gJ_jr (Nat.lt_trans hlt n_lt))]
theorem keyB_of {x : Int} (h0 : 0 < x) (h1 : x < NV) : keyB x = true := by
  unfold keyB
  rw [decide_eq_true_eq]
  exact ⟨h0, h1⟩
/-- what the law's calls give, and that it is true then -/
theorem agree_cases (K B : List Int) (hK : Bytes K) (hB : Bytes B) (lK : K.length = 32) (lB : B.length = 32) :
    (errV (be K) = 1 ∧ (addKV (be K) (be B)).2 = 1) ∨
    (errV (be K) = 0 ∧ ¬ (addKV (be K) (be B)).2 = 0 ∧ (addPV (pubV (be K)) (be B)).2 = (addKV (be K) (be B)).2) ∨
    (errV (be K) = 0 ∧ (addKV (be K) (be B)).2 = 0 ∧ (addPV (pubV (be K)) (be B)).2 = 0 ∧ errV (be (addKV (be K) (be B)).1) = 0 ∧ (addPV (pubV (be K)) (be B)).1 = pubV (be (addKV (be K) (be B)).1)) := by
  have hx := be_u256 hK lK
  have ht := be_u256 hB lB
  have he1 : keyB (be K) = true → errV (be K) = 0 := fun h => by unfold errV; rw [if_pos h]
  rcases addKV_cases (be K) (be B) with ⟨h1, h2⟩ | ⟨h1, h2, h3⟩ | ⟨h1, h2, h3, h4⟩ | ⟨h1, h2, h3, h4⟩
  · exact .inl ⟨by unfold errV; rw [h1]; rfl, by rw [h2]⟩
  · refine .inr (.inl ⟨he1 h1, by rw [h3]; decide, ?_⟩)
    rw [h3]
    unfold addPV
    rw [if_neg h2]
  · refine .inr (.inl ⟨he1 h1, by rw [h4]; decide, ?_⟩)
    rw [h4, agree h1 ht.1 h2, if_pos h3]
  · have hU : 0 ≤ (be K + be B) % NV := Int.emod_nonneg _ (by decide)
    have hL : (be K + be B) % NV < NV := Int.emod_lt_of_pos _ (by decide)
    have hbe : be (addKV (be K) (be B)).1 = (be K + be B) % NV := by rw [h4]; exact be_toB32 ⟨hU, Int.lt_trans hL NV_u256.2⟩
    have hkb : keyB ((be K + be B) % NV) = true := keyB_of (by omega) hL
    refine .inr (.inr ⟨he1 h1, by rw [h4], ?_, ?_, ?_⟩)
    · rw [agree h1 ht.1 h2, if_neg h3]
    · rw [hbe]; unfold errV; rw [if_pos hkb]
    · rw [hbe, agree h1 ht.1 h2, if_neg h3]
      unfold pubV
      rw [if_pos hkb]
end Go.Proofs.YtlofddoojkeakaaDoor
namespace Go.Proofs.YtlofddoojkeakaaDoor
set_option linter.unusedVariables false
set_option linter.unusedSimpArgs false
open Go Go.RowKit

/-- a key's cells -/
def keyCells (d : Int) (fg : List Int) (ch : Int) (cc da : List Int) : List Value := .int .u8 d :: (fg.map (Value.int .u8) ++ (.int .u32 ch :: (cc.map (Value.int .u8) ++ da.map (Value.int .u8))))
theorem keyCells_length {d : Int} {fg : List Int} {ch : Int} {cc da : List Int} (h1 : fg.length = 4) (h2 : cc.length = 32) (h3 : da.length = 33) : (keyCells d fg ch cc da).length = 71 := by simp [keyCells, h1, h2, h3]
theorem keyCells_one (d : Int) (fg : List Int) (ch : Int) (cc da : List Int) : ∀ v ∈ keyCells d fg ch cc da, v.oneCell' = true := by
  intro v hv
  simp only [keyCells, List.mem_cons, List.mem_append, List.mem_map] at hv
  rcases hv with rfl | ⟨x, _, rfl⟩ | rfl | ⟨x, _, rfl⟩ | ⟨x, _, rfl⟩ <;> rfl
/-- its data, its chain -/
theorem keyCells_data (d : Int) {fg : List Int} (ch : Int) {cc : List Int} (da : List Int) (h1 : fg.length = 4) (h2 : cc.length = 32) : (keyCells d fg ch cc da).drop 38 = da.map (Value.int .u8) := by
  have e : keyCells d fg ch cc da = (.int .u8 d :: (fg.map (Value.int .u8) ++ (.int .u32 ch :: cc.map (Value.int .u8)))) ++ da.map (Value.int .u8) := by simp [keyCells]
  rw [e, List.drop_left' (by simp [h1, h2])]
theorem key_data {w : World} {p : Nat} {d : Int} {fg : List Int} {ch : Int} {cc da : List Int} (h : Row w p 0 (keyCells d fg ch cc da)) (h1 : fg.length = 4) (h2 : cc.length = 32) : Row w p 38 (da.map (Value.int .u8)) := by
  have := h.drop 38
  rwa [keyCells_data d ch da h1 h2, Nat.zero_add] at this
theorem sz_hkey {d : Int} {fg : List Int} {ch : Int} {cc da : List Int} (h1 : fg.length = 4) (h2 : cc.length = 32) (h3 : da.length = 33) : (Tryd.prog.info? 30).map (·.size) = some (keyCells d fg ch cc da).length := by rw [keyCells_length h1 h2 h3]; kernel_rfl
variable {d : Int} {fg : List Int} {ch : Int} {cc z : List Int}
set_option maxRecDepth 100000 in
theorem private_any (h1 : fg.length = 4) (h2 : cc.length = 32) (w : World) : Calls Tryd.prog 9 #[.agg (keyCells d fg ch cc (0 :: z)).toArray] w fun e w' => e = .returned (.bool true) ∧ Keeps w w' := by
  have HD := Lib.hid (fun (W : World) (p : Nat) (hr : Row W p 0 (keyCells d fg ch cc (0 :: z))) => (key_data hr h1 h2 0 (.int .u8 0) rfl).1)
  generalize keyCells d fg ch cc (0 :: z) = X at *
  go_enter Tryd.func9, Tryd.ntmps9
  go_upto_region 1 with (fail)
  refine cu_rows1 (fun W hk hr hs => ?_)
  have c38 := HD.out _ _ (show Row W w.heap.size 0 X from by simpa using hr)
  have HK := Lib.hid hk
  clear hk hr hs
  go_wp2
  go_ret
  exact ⟨by first | rfl | exact ret_bool (by simp), HK.out⟩
set_option maxRecDepth 100000 in
set_option maxHeartbeats 1000000 in
theorem secret_any (h1 : fg.length = 4) (h2 : cc.length = 32) (hz : z.length = 32) (w : World) : Calls Tryd.prog 20 #[.agg (keyCells d fg ch cc (0 :: z)).toArray] w fun e w' => e = .returned (.agg (z.map (Value.int .u8)).toArray) ∧ Keeps w w' := by
  have HD := Lib.hid (fun (W : World) (p : Nat) (hr : Row W p 0 (keyCells d fg ch cc (0 :: z))) => (by have := (key_data hr h1 h2).drop 1; simpa using this : Row W p 39 (z.map (Value.int .u8))))
  generalize keyCells d fg ch cc (0 :: z) = X at *
  have hsp := fun W => run_arrayAt (P := Tryd.prog) (w := W) 24 5 32 (some ⟨w.heap.size, 39, none⟩) 32 32 Tryd.underlying24 (Nat.le_refl _)
  go_enter Tryd.func20, Tryd.ntmps20
  go_upto_region 1 with (fail)
  refine cu_rows2 (fun W hk hr hr2 hs => ?_)
  have HR := Lib.hid (HD.out _ _ (show Row W w.heap.size 0 X from by simpa using hr))
  obtain ⟨Z, hZ, hrz⟩ : ∃ Z : List Value, Z.length = 32 ∧ Row W (w.heap.size + 1) 0 Z := ⟨_, rfl, hr2⟩
  have HRZ := Lib.hid hrz; have HK := Lib.hid hk
  clear hk hr hr2 hrz
  go_wp2_with (first | (refine wpList_load_at rfl 24 (.tmp 5) rfl w.heap.size 39 rfl _ _ HR.out Tryd.underlying24 rfl (by rw [List.length_map, hz]; exact sz_b32') ?_) | (refine wpList_store_row rfl 24 (.tmp 2) (.tmp 6) rfl (w.heap.size + 1) 0 rfl Z (z.map (Value.int .u8)) rfl HRZ.out (by rw [List.length_map, hz, hZ]) (by rw [List.length_map, hz]; exact sz_b32') (int_oneCell _) ?_; intro w9 hr9 hc9; have H9 := Lib.hid hr9; have HC9 := Lib.hid hc9; clear hr9 hc9))
  exact bodyPost_ret (v := .agg (z.map (Value.int .u8)).toArray) (results_cell_at (p := 2) (ty := 24) rfl _ _ (w.heap.size + 1) 0 _ _ rfl H9.out Tryd.underlying24 rfl (by rw [List.length_map, hz]; exact sz_b32')) rfl ⟨rfl, nm_keeps_chg HK.out HC9.out (by omega)⟩
set_option maxRecDepth 100000 in
set_option maxHeartbeats 1000000 in
theorem good_any (h1 : fg.length = 4) (h2 : cc.length = 32) (hz : z.length = 32) (hb : Bytes z) (w : World) : Calls Tryd.prog 11 #[.agg (keyCells d fg ch cc (0 :: z)).toArray] w fun e w' => e = .returned (.bool (keyB (be z))) ∧ Keeps w w' := by
  have HP := Lib.hid (fun W => private_any (d := d) (ch := ch) (z := z) h1 h2 W)
  have HS := Lib.hid (fun W => secret_any (d := d) (ch := ch) h1 h2 hz W)
  have HV := Lib.hid (fun W => valid_any z hb hz W)
  have ZK := Lib.hid (sz_hkey (d := d) (ch := ch) (da := 0 :: z) h1 h2 (by simp [hz]))
  generalize keyCells d fg ch cc (0 :: z) = X at *
  generalize keyB (be z) = KB at *
  go_enter Tryd.func11, Tryd.ntmps11
  go_upto_region 1 with (fail)
  refine cu_rows1 (fun W hk hr hs => ?_)
  have HR := Lib.hid (show Row W w.heap.size 0 X from by simpa using hr); have HK := Lib.hid hk
  clear hk hr hs
  go_wp2_with (first | (refine wpList_load_at rfl 30 (.tmp 1) rfl w.heap.size 0 rfl _ _ (by first | exact HR.out | exact HR.out.keeps HK1.out) Tryd.underlying30 rfl ZK.out ?_) | (go_at_call 9; refine (HP.out _).mono ?_; rintro e W1 ⟨rfl, hk1⟩; have HK1 := Lib.hid hk1; clear hk1) | (go_at_call 20; refine (HS.out _).mono ?_; rintro e W2 ⟨rfl, hk2⟩; have HK2 := Lib.hid hk2; clear hk2) | (go_at_call 19; refine (HV.out _).mono ?_; rintro e W3 ⟨rfl, hk3⟩; have HK3 := Lib.hid hk3; clear hk3))
  go_ret
  exact ⟨rfl, ((HK.out.trans HK1.out).trans HK2.out).trans HK3.out⟩
end Go.Proofs.YtlofddoojkeakaaDoor
namespace Go.Proofs.YtlofddoojkeakaaDoor
set_option linter.unusedVariables false
set_option linter.unusedSimpArgs false
open Go Go.RowKit Go.Shelf

theorem size_builder : (Tryd.prog.info? 47).map (·.size) = some 2 := by kernel_rfl
theorem lies_builder : liesAt Tryd.prog Tryd.prog.depth 47 (2 / Tryd.prog.cellsOf 47) 0 47 1 = true := by kernel_rfl
set_option maxHeartbeats 1000000 in
set_option maxRecDepth 100000 in
theorem check_used (b : Nat) (w : World) (h0 : w.cell? ⟨b, 0, none⟩ = some (.pointer (some ⟨b, 0, none⟩))) :
    Calls Tryd.prog 28 #[.pointer (some ⟨b, 0, none⟩)] w fun e w' => e = .returned (.tuple #[]) ∧ w' = w := by
  obtain ⟨j, hj, _⟩ := Option.map_eq_some_iff.1 size_builder
  go_enter Tryd.func28, Tryd.ntmps28
  go_wp2
  rw [Lib.run_neq_ptr_same w _ Tryd.underlying45 hj]
  go_wp2
  go_end0
  exact ⟨rfl, rfl⟩
set_option maxHeartbeats 1000000 in
set_option maxRecDepth 100000 in
theorem check_fresh (b : Nat) (w : World) (h0 : w.cell? ⟨b, 0, none⟩ = some (.pointer none)) (hsh : w.shape? b = some (47, 2)) (hfz : w.frozen? ⟨b, 0, none⟩ = false) :
    Calls Tryd.prog 28 #[.pointer (some ⟨b, 0, none⟩)] w fun e w' => e = .returned (.tuple #[]) ∧ w' = w.setCell ⟨b, 0, none⟩ (.pointer (some ⟨b, 0, none⟩)) := by
  obtain ⟨j, hj, hjs⟩ := Option.map_eq_some_iff.1 size_builder
  go_enter Tryd.func28, Tryd.ntmps28
  go_wp2
  rw [Lib.run_to_unsafe w ⟨b, 0, none⟩ Tryd.underlying45 Tryd.underlying105 hj (by rw [hjs]; decide) hsh (Nat.zero_lt_succ 1)]
  simp only [Result.andThen]
  rw [Oper.upon_value]
  go_wp2
  rw [run_callFunc_extern Tryd.func50 (by kernel_rfl) (by kernel_rfl) (by kernel_rfl) (e := Extern.AbiNoEscape.same) (by kernel_rfl)]
  rw [Lib.run_noEscape]
  simp only [Result.andThen]
  rw [Oper.upon_value]
  go_wp2
  rw [Lib.run_from_unsafe w ⟨b, 0, none⟩ Tryd.underlying105 Tryd.underlying45 hj hsh lies_builder]
  simp only [Result.andThen]
  rw [Oper.upon_value]
  go_wp2
  go_end0
  exact ⟨rfl, rfl⟩
theorem check_any (B b : Nat) (bs : List Value) (w : World) (h : Lib.IsBuilder 47 5 B b bs w) :
    Calls Tryd.prog 28 #[.pointer (some ⟨b, 0, none⟩)] w fun e w' => e = .returned (.tuple #[]) ∧ (Lib.BuilderAt 47 5 B b (.pointer (some ⟨b, 0, none⟩)) bs w' ∧ Below B w w' ∧ Lib.OthersKept 5 (some b) w w' ∧ w.heap.size ≤ w'.heap.size) := by
  rcases h with h | h
  · refine (check_fresh b w h.cell0 h.shape h.frozen0).mono ?_
    rintro e w' ⟨rfl, rfl⟩
    exact ⟨rfl, h.used _, (Below.refl B w).setCell (p := ⟨b, 0, none⟩) h.1 _, (Lib.OthersKept.refl _ _ w).setCell ⟨b, 0, none⟩ rfl _, by simp⟩
  · refine (check_used b w h.cell0).mono ?_
    rintro e w' ⟨rfl, rfl⟩
    exact ⟨rfl, h, Below.refl B _, Lib.OthersKept.refl _ _ _, Nat.le_refl _⟩
set_option maxHeartbeats 2000000 in
set_option maxRecDepth 100000 in
theorem writeByte_any (B b : Nat) (bs : List Value) (c : Int) (w : World) (h : Lib.IsBuilder 47 5 B b bs w) (hlen : bs.length + 1 ≤ 140737488355328) (hBw : B ≤ w.heap.size) :
    Calls Tryd.prog 15 #[.pointer (some ⟨b, 0, none⟩), .int .u8 c] w fun e w' => e = .returned .nilIface ∧ (Lib.BuilderAt 47 5 B b (.pointer (some ⟨b, 0, none⟩)) (bs ++ [.int .u8 c]) w' ∧ Below B w w' ∧ Lib.OthersKept 5 (some b) w w' ∧ w.heap.size ≤ w'.heap.size) := by
  obtain ⟨i0, hi, hz0, hz1, hz2⟩ := info_parts u8_info
  have hck := check_any B b bs w h
  go_enter Tryd.func15, Tryd.ntmps15
  go_wp2_with (go_at_call 28; refine hck.mono ?_)
  rintro e w1 ⟨rfl, h1, hb1, hk1, hs1⟩
  obtain ⟨hB, v, hbk, hown, hne⟩ := h1
  have c0 : w1.cell? ⟨b, 0, none⟩ = some (.pointer (some ⟨b, 0, none⟩)) := by rw [Lib.cell_of_heap hbk]; rfl
  have c1 : w1.cell? ⟨b, 1, none⟩ = some v := by rw [Lib.cell_of_heap hbk]; rfl
  go_wp2_with (at_builtin; refine wpList_append_own _ rfl _ _ 38 rfl B 5 i0 (.int .u8 0) 1 1 Tryd.underlying38 hi hz0 hz1 hz2 rfl (by decide) _ _ _ rfl (hown.alloc _) ⟨w1.heap.size, 0, none⟩ 1 1 [.int .u8 c] rfl rfl ?c1 ?c2 ?c3 ?c4 ?c5 ?_)
  case c1 =>
    intro j u hj
    match j, hj with
    | 0, hj => simp at hj; subst hj; simp [Addr.add]
  case c2 => intro u hu; simp at hu; subst hu; rfl
  case c3 => unfold maxLen; omega
  case c4 => omega
  case c5 => have := hb1.size; simp; omega
  intro v' w2 hown' hgrow _
  have hlt : b < w1.heap.size := by
    rcases Nat.lt_or_ge b w1.heap.size with h' | h'
    · exact h'
    · simp [Array.getElem?_eq_none h'] at hbk
  have hb2 : w2.heap[b]? = some (.cells #[.pointer (some ⟨b, 0, none⟩), v] 47 (0, 0)) := by
    rw [hgrow.block b (by simp; omega) (fun e => hne e.symm), Lib.alloc_old w1 _ b hlt]
    exact hbk
  have d0 : w2.cell? ⟨b, 0, none⟩ = some (.pointer (some ⟨b, 0, none⟩)) := by rw [Lib.cell_of_heap hb2]; rfl
  have d1 : w2.cell? ⟨b, 1, none⟩ = some v := by rw [Lib.cell_of_heap hb2]; rfl
  have f1 : w2.frozen? ⟨b, 1, none⟩ = false := Lib.frozen_of_heap hb2 1
  obtain ⟨g, cap, rfl⟩ : ∃ g cap, v' = .slice (some ⟨g, 0, none⟩) (bs.length + 1) cap := by
    rcases hown'.2 with ⟨_, h0⟩ | ⟨g, cap, cur, hv, _⟩
    · omega
    · exact ⟨g, cap, hv⟩
  go_wp2
  go_ret
  refine ⟨rfl, ?_, ?_, ((hk1.alloc _).grown hgrow ?_).setCell ⟨b, 1, none⟩ rfl _, ?_⟩
  · exact Lib.BuilderAt.put (T := 47) (e := 5) hB hb2 (bs' := bs ++ [.int .u8 c]) (by simpa using hown') (by decide)
  · exact ((hb1.alloc (by have := hb1.size; omega) _).grown hgrow (by have := hb1.size; simp; omega) (fun k hk => (hown.lt k hk).1)).setCell (p := ⟨b, 1, none⟩) hB _
  · exact Lib.ownsRowF_kind (World.ownsRowF_of (hown.alloc _))
  · have := hgrow.size; simp at this ⊢; omega
/-- what a round keeps for Backward: what lay below n₀, and the box of the slice -/
def KpT (n₀ Bs : Nat) (W W' : World) : Prop := Below n₀ W W' ∧ (W.heap[Bs]? = W'.heap[Bs]?)
theorem KpT.t {n₀ Bs : Nat} {A B C : World} (h : KpT n₀ Bs A B) (k : KpT n₀ Bs B C) : KpT n₀ Bs A C := ⟨h.1.trans k.1, h.2.trans k.2⟩
theorem KpT.b {n₀ Bs : Nat} {w : World} (hn : n₀ ≤ w.heap.size) (hB : Bs < w.heap.size) (W : World) (l : Nat) (o o' : Obj) (hl : w.heap.size ≤ l) (h : W.heap[l]? = some o) (hc : o.isCells = false) (hw : o.isWalk = false) : KpT n₀ Bs W (W.putObj l o') :=
  ⟨belowK_b hn W l o o' hl h hc hw, (World.putObj_heap_other (by omega)).symm⟩
end Go.Proofs.YtlofddoojkeakaaDoor
