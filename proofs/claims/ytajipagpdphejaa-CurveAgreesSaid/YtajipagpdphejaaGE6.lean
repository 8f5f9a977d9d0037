/- strongboxlaw05.CurvePublics: the walk. No condition. | strongboxlaw05.CurveAdds: the walk. No condition. | strongboxlaw05.CurveAgrees: the walk. No condition. -/
import Derived.Test.YtajipagpdphejaaGE1
import Derived.Test.YtajipagpdphejaaGB6
import Derived.Test.YtajipagpdphejaaGE5
namespace Go.Proofs.Ytajipagpdphejaa
set_option linter.unusedVariables false
set_option linter.unusedSimpArgs false
open Go Go.RowKit Cv

theorem cu_neqg {P : Program} {ops : Array Oper} {rest : List Oper} {o : Oper} {a : Act} {w : World} {Q : Exit → Act → World → Prop} (hw : Region.wanted o (yielded ops a.tmps) = true) (t t' : TypeId) (x y : Operand) (ho : o.op = .binOp .neq t x y t') (A B : Array Value) (hx : a.eval x = .agg A) (hy : a.eval y = .agg B) (r : Bool)
    (hE : ∀ W, (Op.equalIn 10000 t (.agg A) (.agg B)).run P W = .ok r W) (hm : P.eqGuardType P.depth t = false) (h : wpList P ops Q rest (a.put o.dst (.bool (!r))) w) : wpList P ops Q (o :: rest) a w :=
  cu_neq hw t t' x y ho A B hx hy r hE hm h
theorem eq32 (l m : List Int) (h : Bytes l) (h' : Bytes m) (hl : l.length = 32) (hm : m.length = 32) (W : World) : (Op.equalIn 10000 22 (.agg (l.map (Value.int .u8)).toArray) (.agg (m.map (Value.int .u8)).toArray)).run Try.prog W = .ok (decide (l = m)) W :=
  arr_equal W 22 5 32 .u8 (by kernel_rfl) Try.underlying22 Try.underlying5 (by kernel_rfl) (by kernel_rfl) l m hl (byte_wf h) hm (byte_wf h')
set_option maxRecDepth 100000 in
set_option maxHeartbeats 8000000 in
theorem adds_any (K B PB : List Int) (hK : Bytes K) (hB : Bytes B) (hP : Bytes PB) (lK : K.length = 32) (lB : B.length = 32) (lP : PB.length = 33) (w : World) :
    Calls Try.prog 5 #[.agg (K.map (Value.int .u8)).toArray, .agg (B.map (Value.int .u8)).toArray, .agg (PB.map (Value.int .u8)).toArray] w fun e w' => e = .returned (.bool true) ∧ Keeps w w' := by
  have HAW := Lib.hid awake_any
  have HAK := Lib.hid (addkey_any K B hK hB lK lB)
  have HRK := Lib.hid (raddkey_any K B hK hB lK lB)
  have HAP := Lib.hid (addpub_any PB B hP hB lP lB)
  have HRP := Lib.hid (raddpub_any PB B hP hB lP lB)
  have l1 := addKV_len (be K) (be B)
  have l2 := addPV_len PB (be B)
  have HE1 := Lib.hid (eq32 (addKV (be K) (be B)).1 (addKV (be K) (be B)).1 (addKV_bytes _ _) (addKV_bytes _ _) l1 l1)
  rw [decide_eq_true rfl] at HE1
  have HE2 := Lib.hid (eq33 (addPV PB (be B)).1 (addPV PB (be B)).1 (addPV_bytes _ _) (addPV_bytes _ _) l2 l2)
  rw [decide_eq_true rfl] at HE2
  generalize (addKV (be K) (be B)).1 = SK at *
  generalize (addKV (be K) (be B)).2 = e1 at *
  generalize (addPV PB (be B)).1 = SP at *
  generalize (addPV PB (be B)).2 = e2 at *
  clear hK hB hP
  have z1 : (e1 != e1) = false := by simp
  have z2 : (e2 == e2) = true := by simp
  go_enter Try.func5, Try.ntmps5
  go_upto_region 1 with (fail)
  refine wp_rows3 (fun W hk hra hrb hrc hs => ?_)
  obtain ⟨p, hp⟩ : ∃ p, p = w.heap.size := ⟨_, rfl⟩
  rw [← hp] at hra hrb hrc hs ⊢
  have HRA := Lib.hid (show Row W p 0 (K.map (Value.int .u8)) from hra); have HRB := Lib.hid (show Row W (p + 1) 0 (B.map (Value.int .u8)) from hrb); have HRC := Lib.hid (show Row W (p + 1 + 1) 0 (PB.map (Value.int .u8)) from hrc); have HKW := Lib.hid hk
  clear hp hk hra hrb hrc hs
  go_upto_region 3 with (go_at_call 9; refine (HAW.out _).mono ?_; rintro e W1 ⟨rfl, hk1⟩; have HK1 := Lib.hid hk1; clear hk1)
  have HRA := Lib.hid (HRA.out.keeps HK1.out); have HRB := Lib.hid (HRB.out.keeps HK1.out); have HRC := Lib.hid (HRC.out.keeps HK1.out); have HKW := Lib.hid (HKW.out.trans HK1.out)
  clear HK1
  go_upto_region 4 with (first | (refine wpList_load_at rfl 22 (.tmp 3) rfl _ 0 rfl (K.map (Value.int .u8)) _ HRA.out Try.underlying22 rfl (by rw [List.length_map, lK]; exact sz_b32') ?_) | (refine wpList_load_at rfl 22 (.tmp 4) rfl _ 0 rfl (B.map (Value.int .u8)) _ HRB.out Try.underlying22 rfl (by rw [List.length_map, lB]; exact sz_b32') ?_) | (go_at_call 19; refine (HAK.out _).mono ?_; rintro e W2 ⟨rfl, hk1⟩; have HK2 := Lib.hid hk1; clear hk1) | (refine wpList_store_row rfl 22 (.tmp 7) (.tmp 19) rfl W2.heap.size 0 rfl (zeroL32.map (Value.int .u8)) (SK.map (Value.int .u8)) rfl (Row.new _ _ _ rfl) (by rw [List.length_map, l1]; rfl) (by rw [List.length_map, l1]; exact sz_b32') (int_oneCell _) ?_; intro W3 hr2 hc2; have HR7 := Lib.hid hr2; have HK3 := Lib.hid (nm_keeps_chg (nm_keeps_alloc HK2.out _) hc2 HK2.out.size); clear hr2 hc2))
  generalize W2.heap.size = q at *
  have HRA := Lib.hid (HRA.out.keeps HK3.out); have HRB := Lib.hid (HRB.out.keeps HK3.out); have HRC := Lib.hid (HRC.out.keeps HK3.out); have HKW := Lib.hid (HKW.out.trans HK3.out)
  clear HK3 HK2
  go_upto_region 5 with (first | (refine wpList_load_at rfl 22 (.tmp 3) rfl _ 0 rfl (K.map (Value.int .u8)) _ HRA.out Try.underlying22 rfl (by rw [List.length_map, lK]; exact sz_b32') ?_) | (refine wpList_load_at rfl 22 (.tmp 4) rfl _ 0 rfl (B.map (Value.int .u8)) _ HRB.out Try.underlying22 rfl (by rw [List.length_map, lB]; exact sz_b32') ?_) | (go_at_call 20; refine (HRK.out _).mono ?_; rintro e W4 ⟨rfl, hk1⟩; have HK4 := Lib.hid hk1; clear hk1) | (refine wpList_store_row rfl 22 (.tmp 9) (.tmp 25) rfl W4.heap.size 0 rfl (zeroL32.map (Value.int .u8)) (SK.map (Value.int .u8)) rfl (Row.new _ _ _ rfl) (by rw [List.length_map, l1]; rfl) (by rw [List.length_map, l1]; exact sz_b32') (int_oneCell _) ?_; intro W5 hr2 hc2; have HR9 := Lib.hid hr2; have HK5 := Lib.hid (nm_keeps_chg (nm_keeps_alloc HK4.out _) hc2 HK4.out.size); clear hr2 hc2))
  generalize W4.heap.size = q2 at *
  have HR7 := Lib.hid (HR7.out.keeps HK5.out); have HRB := Lib.hid (HRB.out.keeps HK5.out); have HRC := Lib.hid (HRC.out.keeps HK5.out); have HKW := Lib.hid (HKW.out.trans HK5.out)
  clear HK4 HK5
  go_upto_region 7 with (first | (refine wpList_load_at rfl 22 (.tmp 7) rfl _ 0 rfl (SK.map (Value.int .u8)) _ HR7.out Try.underlying22 rfl (by rw [List.length_map, l1]; exact sz_b32') ?_) | (refine wpList_load_at rfl 22 (.tmp 9) rfl _ 0 rfl (SK.map (Value.int .u8)) _ HR9.out Try.underlying22 rfl (by rw [List.length_map, l1]; exact sz_b32') ?_) | ((with_reducible refine gate_bin .neq 22 22 (.tmp 27) (.tmp 28) ?_); refine cu_neqg (by kernel_rfl) 22 22 (.tmp 27) (.tmp 28) rfl _ _ rfl rfl true HE1.out (by kernel_rfl) ?_))
  go_upto_region 8 with (first | (refine wpList_load_at rfl 25 (.tmp 5) rfl _ 0 rfl (PB.map (Value.int .u8)) _ HRC.out Try.underlying25 rfl (by rw [List.length_map, lP]; exact sz_b33) ?_) | (refine wpList_load_at rfl 22 (.tmp 4) rfl _ 0 rfl (B.map (Value.int .u8)) _ HRB.out Try.underlying22 rfl (by rw [List.length_map, lB]; exact sz_b32') ?_) | (go_at_call 21; refine (HAP.out _).mono ?_; rintro e W2 ⟨rfl, hk1⟩; have HK2 := Lib.hid hk1; clear hk1) | (refine wpList_store_row rfl 25 (.tmp 11) (.tmp 39) rfl W2.heap.size 0 rfl (zeroL33.map (Value.int .u8)) (SP.map (Value.int .u8)) rfl (Row.new _ _ _ rfl) (by rw [List.length_map, l2]; rfl) (by rw [List.length_map, l2]; exact sz_b33) (int_oneCell _) ?_; intro W3 hr2 hc2; have HR11 := Lib.hid hr2; have HK3 := Lib.hid (nm_keeps_chg (nm_keeps_alloc HK2.out _) hc2 HK2.out.size); clear hr2 hc2))
  generalize W2.heap.size = q3 at *
  have HRB := Lib.hid (HRB.out.keeps HK3.out); have HRC := Lib.hid (HRC.out.keeps HK3.out); have HKW := Lib.hid (HKW.out.trans HK3.out)
  clear HK3 HK2
  go_upto_region 9 with (first | (refine wpList_load_at rfl 25 (.tmp 5) rfl _ 0 rfl (PB.map (Value.int .u8)) _ HRC.out Try.underlying25 rfl (by rw [List.length_map, lP]; exact sz_b33) ?_) | (refine wpList_load_at rfl 22 (.tmp 4) rfl _ 0 rfl (B.map (Value.int .u8)) _ HRB.out Try.underlying22 rfl (by rw [List.length_map, lB]; exact sz_b32') ?_) | (go_at_call 22; refine (HRP.out _).mono ?_; rintro e W4 ⟨rfl, hk1⟩; have HK4 := Lib.hid hk1; clear hk1) | (refine wpList_store_row rfl 25 (.tmp 12) (.tmp 45) rfl W4.heap.size 0 rfl (zeroL33.map (Value.int .u8)) (SP.map (Value.int .u8)) rfl (Row.new _ _ _ rfl) (by rw [List.length_map, l2]; rfl) (by rw [List.length_map, l2]; exact sz_b33) (int_oneCell _) ?_; intro W5 hr2 hc2; have HR12 := Lib.hid hr2; have HK5 := Lib.hid (nm_keeps_chg (nm_keeps_alloc HK4.out _) hc2 HK4.out.size); clear hr2 hc2))
  generalize W4.heap.size = q4 at *
  have HR11 := Lib.hid (HR11.out.keeps HK5.out); have HKW := Lib.hid (HKW.out.trans HK5.out)
  clear HK4 HK5
  go_wp2_with (first | (refine wpList_load_at rfl 25 (.tmp 11) rfl _ 0 rfl (SP.map (Value.int .u8)) _ HR11.out Try.underlying25 rfl (by rw [List.length_map, l2]; exact sz_b33) ?_) | (refine wpList_load_at rfl 25 (.tmp 12) rfl _ 0 rfl (SP.map (Value.int .u8)) _ HR12.out Try.underlying25 rfl (by rw [List.length_map, l2]; exact sz_b33) ?_) | ((with_reducible refine gate_bin .eql 25 25 (.tmp 47) (.tmp 48) ?_); refine cu_eql (by kernel_rfl) 25 25 (.tmp 47) (.tmp 48) rfl _ _ rfl rfl true HE2.out (by kernel_rfl) ?_))
  go_ret
  exact ⟨by first | rfl | exact ret_bool (by simp), HKW.out⟩
/-- the public key of a key, and a number's point added -/
theorem agree {x t : Int} (hx : keyB x = true) (h0 : 0 ≤ t) (h1 : t < NV) : addPV (pubV x) t = if (x + t) % NV = 0 then (zeroL33, 7) else (pubB ((x + t) % NV).toNat, 0) := by
  have hk := key_lt hx
  have hn := nv_eq
  obtain ⟨n1, n2, n3⟩ := nv_toNat h0 h1
  obtain ⟨a, b, hu, ha, hb, hon, hm⟩ := unp_pub (k := x.toNat) (by omega) (by omega)
  have hok : (J.mk a b 1).ok := ⟨ha, hb, (by decide : 1 < PVn)⟩
  have hjr := addJ_jr hok (timesJ_ok t.toNat gJ_ok 256) (P := .aff (fp a) (fp b)) (Q := mulP gP t.toNat) hon (gmul_on _) aff_jr (times_n gJ_ok g_on gJ_jr n1)
  have hsok := addJ_ok hok (timesJ_ok t.toNat gJ_ok 256)
  rw [← hm, ← mul_add good_p g_on, ← mul_mod] at hjr
  have h5 : (((x.toNat + t.toNat) % nVn : Nat) : Int) = (x + t) % NV := by rw [Int.natCast_emod, Int.natCast_add, Int.toNat_of_nonneg (by omega), n3, hn]
  have hmod : (x.toNat + t.toNat) % nVn = ((x + t) % NV).toNat := by rw [← h5, Int.toNat_natCast]
  rw [hmod] at hjr
  have hpv : pubV x = pubB x.toNat := by unfold pubV; rw [if_pos hx]
  have hlt : ((x + t) % NV).toNat < nVn := by
    have := Int.emod_lt_of_pos (x + t) (show 0 < NV by decide)
    have := Int.emod_nonneg (x + t) (show NV ≠ 0 by decide)
    omega
  unfold addPV
  rw [if_pos h1, hpv, hu]
  dsimp only
  by_cases hz : (x + t) % NV = 0
  · rw [if_pos hz]
    have : (addJ ⟨a, b, 1⟩ (timesJ t.toNat gJ 256)).z = 0 := (jr_z hsok hjr).2 (mul_z.2 (by rw [hz]; decide))
    rw [if_pos this]
  · rw [if_neg hz]
    have hne : ¬ (addJ ⟨a, b, 1⟩ (timesJ t.toNat gJ 256)).z = 0 := fun h => by
      have := mul_z.1 ((jr_z hsok hjr).1 h)
      rw [Nat.mod_eq_of_lt hlt] at this
      have h3 := Int.emod_nonneg (x + t) (show NV ≠ 0 by decide)
      omega
    rw [if_neg hne]
    unfold pubB
    rw [flatJ_eq hsok hjr, flatJ_eq (timesJ_ok _ gJ_ok 256) (times_n gJ_ok g_on gJ_jr (Nat.lt_trans hlt n_lt))]
theorem keyB_of {x : Int} (h0 : 0 < x) (h1 : x < NV) : keyB x = true := by
  unfold keyB
  rw [decide_eq_true_eq]
  exact ⟨h0, h1⟩
/-- what the law's calls give, and that it is true then -/
theorem agree_cases (K B : List Int) (hK : Bytes K) (hB : Bytes B) (lK : K.length = 32) (lB : B.length = 32) :
    (errV (be K) = 1 ∧ (addKV (be K) (be B)).2 = 1) ∨
    (errV (be K) = 0 ∧ ¬ (addKV (be K) (be B)).2 = 0 ∧ (addPV (pubV (be K)) (be B)).2 = (addKV (be K) (be B)).2) ∨
    (errV (be K) = 0 ∧ (addKV (be K) (be B)).2 = 0 ∧ (addPV (pubV (be K)) (be B)).2 = 0 ∧ errV (be (addKV (be K) (be B)).1) = 0 ∧ (addPV (pubV (be K)) (be B)).1 = pubV (be (addKV (be K) (be B)).1)) := by
  have hx := be_u256 hK lK
  have ht := be_u256 hB lB
  have he1 : keyB (be K) = true → errV (be K) = 0 := fun h => by unfold errV; rw [if_pos h]
  rcases addKV_cases (be K) (be B) with ⟨h1, h2⟩ | ⟨h1, h2, h3⟩ | ⟨h1, h2, h3, h4⟩ | ⟨h1, h2, h3, h4⟩
  · exact .inl ⟨by unfold errV; rw [h1]; rfl, by rw [h2]⟩
  · refine .inr (.inl ⟨he1 h1, by rw [h3]; decide, ?_⟩)
    rw [h3]
    unfold addPV
    rw [if_neg h2]
  · refine .inr (.inl ⟨he1 h1, by rw [h4]; decide, ?_⟩)
    rw [h4, agree h1 ht.1 h2, if_pos h3]
  · have hU : 0 ≤ (be K + be B) % NV := Int.emod_nonneg _ (by decide)
    have hL : (be K + be B) % NV < NV := Int.emod_lt_of_pos _ (by decide)
    have hbe : be (addKV (be K) (be B)).1 = (be K + be B) % NV := by rw [h4]; exact be_toB32 ⟨hU, Int.lt_trans hL NV_u256.2⟩
    have hkb : keyB ((be K + be B) % NV) = true := keyB_of (by omega) hL
    refine .inr (.inr ⟨he1 h1, by rw [h4], ?_, ?_, ?_⟩)
    · rw [agree h1 ht.1 h2, if_neg h3]
    · rw [hbe]; unfold errV; rw [if_pos hkb]
    · rw [hbe, agree h1 ht.1 h2, if_neg h3]
      unfold pubV
      rw [if_pos hkb]
set_option maxRecDepth 100000 in
set_option maxHeartbeats 8000000 in
theorem agrees_any (K B : List Int) (hK : Bytes K) (hB : Bytes B) (lK : K.length = 32) (lB : B.length = 32) (w : World) :
    Calls Try.prog 6 #[.agg (K.map (Value.int .u8)).toArray, .agg (B.map (Value.int .u8)).toArray] w fun e w' => e = .returned (.bool true) ∧ Keeps w w' := by
  have HAW := Lib.hid awake_any
  have HAK := Lib.hid (addkey_any K B hK hB lK lB)
  have HPU := Lib.hid (public_any K hK lK)
  have l3 := pubV_len (be K)
  have HAP := Lib.hid (addpub_any (pubV (be K)) B (pubV_bytes _) hB l3 lB)
  have l1 := addKV_len (be K) (be B)
  have HPS := Lib.hid (public_any (addKV (be K) (be B)).1 (addKV_bytes _ _) l1)
  have l2 := addPV_len (pubV (be K)) (be B)
  have l4 := pubV_len (be (addKV (be K) (be B)).1)
  have hcs := agree_cases K B hK hB lK lB
  have HE2 := Lib.hid (eq33 (addPV (pubV (be K)) (be B)).1 (addPV (pubV (be K)) (be B)).1 (addPV_bytes _ _) (addPV_bytes _ _) l2 l2)
  rw [decide_eq_true rfl] at HE2
  generalize pubV (be (addKV (be K) (be B)).1) = WT at *
  generalize errV (be (addKV (be K) (be B)).1) = h at *
  generalize (addKV (be K) (be B)).1 = SK at *
  generalize (addKV (be K) (be B)).2 = e at *
  generalize (addPV (pubV (be K)) (be B)).1 = SP at *
  generalize (addPV (pubV (be K)) (be B)).2 = g at *
  generalize pubV (be K) = PK at *
  generalize errV (be K) = f at *
  clear hK hB
  have HCS := Lib.hid hcs
  clear hcs
  go_enter Try.func6, Try.ntmps6
  go_upto_region 1 with (fail)
  refine cu_rows2 (fun W hk hra hrb hs => ?_)
  obtain ⟨p, hp⟩ : ∃ p, p = w.heap.size := ⟨_, rfl⟩
  rw [← hp] at hra hrb hs ⊢
  have HRA := Lib.hid (show Row W p 0 (K.map (Value.int .u8)) from hra); have HRB := Lib.hid (show Row W (p + 1) 0 (B.map (Value.int .u8)) from hrb); have HKW := Lib.hid hk
  clear hp hk hra hrb hs
  go_upto_region 3 with (go_at_call 9; refine (HAW.out _).mono ?_; rintro e W1 ⟨rfl, hk1⟩; have HK1 := Lib.hid hk1; clear hk1)
  have HRA := Lib.hid (HRA.out.keeps HK1.out); have HRB := Lib.hid (HRB.out.keeps HK1.out); have HKW := Lib.hid (HKW.out.trans HK1.out)
  clear HK1
  go_upto_region 4 with (first | (refine wpList_load_at rfl 22 (.tmp 2) rfl _ 0 rfl (K.map (Value.int .u8)) _ HRA.out Try.underlying22 rfl (by rw [List.length_map, lK]; exact sz_b32') ?_) | (refine wpList_load_at rfl 22 (.tmp 3) rfl _ 0 rfl (B.map (Value.int .u8)) _ HRB.out Try.underlying22 rfl (by rw [List.length_map, lB]; exact sz_b32') ?_) | (go_at_call 19; refine (HAK.out _).mono ?_; rintro e' W2 ⟨rfl, hk1⟩; have HK2 := Lib.hid hk1; clear hk1) | (refine wpList_store_row rfl 22 (.tmp 5) (.tmp 19) rfl W2.heap.size 0 rfl (zeroL32.map (Value.int .u8)) (SK.map (Value.int .u8)) rfl (Row.new _ _ _ rfl) (by rw [List.length_map, l1]; rfl) (by rw [List.length_map, l1]; exact sz_b32') (int_oneCell _) ?_; intro W3 hr2 hc2; have HR5 := Lib.hid hr2; have HK3 := Lib.hid (nm_keeps_chg (nm_keeps_alloc HK2.out _) hc2 HK2.out.size); clear hr2 hc2))
  generalize W2.heap.size = q at *
  have HRA := Lib.hid (HRA.out.keeps HK3.out); have HRB := Lib.hid (HRB.out.keeps HK3.out); have HKW := Lib.hid (HKW.out.trans HK3.out)
  clear HK3 HK2
  go_upto_region 5 with (first | (refine wpList_load_at rfl 22 (.tmp 2) rfl _ 0 rfl (K.map (Value.int .u8)) _ HRA.out Try.underlying22 rfl (by rw [List.length_map, lK]; exact sz_b32') ?_) | (go_at_call 10; refine (HPU.out _).mono ?_; rintro e' W4 ⟨rfl, hk1⟩; have HK4 := Lib.hid hk1; clear hk1) | (refine wpList_store_row rfl 25 (.tmp 7) (.tmp 24) rfl W4.heap.size 0 rfl (zeroL33.map (Value.int .u8)) (PK.map (Value.int .u8)) rfl (Row.new _ _ _ rfl) (by rw [List.length_map, l3]; rfl) (by rw [List.length_map, l3]; exact sz_b33) (int_oneCell _) ?_; intro W5 hr2 hc2; have HR7 := Lib.hid hr2; have HK5 := Lib.hid (nm_keeps_chg (nm_keeps_alloc HK4.out _) hc2 HK4.out.size); clear hr2 hc2))
  generalize W4.heap.size = q2 at *
  have HR5 := Lib.hid (HR5.out.keeps HK5.out); have HRB := Lib.hid (HRB.out.keeps HK5.out); have HKW := Lib.hid (HKW.out.trans HK5.out)
  clear HK4 HK5 HRA
  rcases HCS.out with ⟨rfl, rfl⟩ | ⟨rfl, hne, rfl⟩ | ⟨rfl, rfl, rfl, rfl, rfl⟩
  · go_wp2
    go_ret
    exact ⟨by first | rfl | exact ret_bool (by simp), HKW.out⟩
  · have z1 : (g != 0) = true := by rw [bne_iff_ne]; exact hne
    have z2 : (g == g) = true := by simp
    clear hne HCS
    go_upto_region 8 with (first | (refine wpList_load_at rfl 25 (.tmp 7) rfl _ 0 rfl (PK.map (Value.int .u8)) _ HR7.out Try.underlying25 rfl (by rw [List.length_map, l3]; exact sz_b33) ?_) | (refine wpList_load_at rfl 22 (.tmp 3) rfl _ 0 rfl (B.map (Value.int .u8)) _ HRB.out Try.underlying22 rfl (by rw [List.length_map, lB]; exact sz_b32') ?_) | (go_at_call 21; refine (HAP.out _).mono ?_; rintro e' W6 ⟨rfl, hk1⟩; have HK6 := Lib.hid hk1; clear hk1) | (refine wpList_store_row rfl 25 (.tmp 9) (.tmp 34) rfl W6.heap.size 0 rfl (zeroL33.map (Value.int .u8)) (SP.map (Value.int .u8)) rfl (Row.new _ _ _ rfl) (by rw [List.length_map, l2]; rfl) (by rw [List.length_map, l2]; exact sz_b33) (int_oneCell _) ?_; intro W7 hr2 hc2; have HR9 := Lib.hid hr2; have HK7 := Lib.hid (nm_keeps_chg (nm_keeps_alloc HK6.out _) hc2 HK6.out.size); clear hr2 hc2))
    go_wp2
    go_ret
    exact ⟨by first | rfl | exact ret_bool (by simp), HKW.out.trans HK7.out⟩
  · clear HCS
    go_upto_region 8 with (first | (refine wpList_load_at rfl 25 (.tmp 7) rfl _ 0 rfl (PK.map (Value.int .u8)) _ HR7.out Try.underlying25 rfl (by rw [List.length_map, l3]; exact sz_b33) ?_) | (refine wpList_load_at rfl 22 (.tmp 3) rfl _ 0 rfl (B.map (Value.int .u8)) _ HRB.out Try.underlying22 rfl (by rw [List.length_map, lB]; exact sz_b32') ?_) | (go_at_call 21; refine (HAP.out _).mono ?_; rintro e' W6 ⟨rfl, hk1⟩; have HK6 := Lib.hid hk1; clear hk1) | (refine wpList_store_row rfl 25 (.tmp 9) (.tmp 34) rfl W6.heap.size 0 rfl (zeroL33.map (Value.int .u8)) (SP.map (Value.int .u8)) rfl (Row.new _ _ _ rfl) (by rw [List.length_map, l2]; rfl) (by rw [List.length_map, l2]; exact sz_b33) (int_oneCell _) ?_; intro W7 hr2 hc2; have HR9 := Lib.hid hr2; have HK7 := Lib.hid (nm_keeps_chg (nm_keeps_alloc HK6.out _) hc2 HK6.out.size); clear hr2 hc2))
    generalize W6.heap.size = q3 at *
    have HR5 := Lib.hid (HR5.out.keeps HK7.out); have HKW := Lib.hid (HKW.out.trans HK7.out)
    clear HK7 HK6
    go_upto_region 11 with (first | (refine wpList_load_at rfl 22 (.tmp 5) rfl _ 0 rfl (SK.map (Value.int .u8)) _ HR5.out Try.underlying22 rfl (by rw [List.length_map, l1]; exact sz_b32') ?_) | (go_at_call 10; refine (HPS.out _).mono ?_; rintro e' W8 ⟨rfl, hk1⟩; have HK8 := Lib.hid hk1; clear hk1) | (refine wpList_store_row rfl 25 (.tmp 11) (.tmp 44) rfl W8.heap.size 0 rfl (zeroL33.map (Value.int .u8)) (SP.map (Value.int .u8)) rfl (Row.new _ _ _ rfl) (by rw [List.length_map, l2]; rfl) (by rw [List.length_map, l2]; exact sz_b33) (int_oneCell _) ?_; intro W9 hr2 hc2; have HR11 := Lib.hid hr2; have HK9 := Lib.hid (nm_keeps_chg (nm_keeps_alloc HK8.out _) hc2 HK8.out.size); clear hr2 hc2))
    generalize W8.heap.size = q4 at *
    have HR9 := Lib.hid (HR9.out.keeps HK9.out); have HKW := Lib.hid (HKW.out.trans HK9.out)
    go_wp2_with (first | ((with_reducible refine gate_load 25 (.tmp 9) ?_); refine cu_load (by kernel_rfl) 25 (.tmp 9) rfl _ 0 rfl (SP.map (Value.int .u8)) _ HR9.out Try.underlying25 rfl (by rw [List.length_map, l2]; exact sz_b33) ?_) | ((with_reducible refine gate_load 25 (.tmp 11) ?_); refine cu_load (by kernel_rfl) 25 (.tmp 11) rfl _ 0 rfl (SP.map (Value.int .u8)) _ HR11.out Try.underlying25 rfl (by rw [List.length_map, l2]; exact sz_b33) ?_) | ((with_reducible refine gate_bin .eql 25 25 (.tmp 53) (.tmp 54) ?_); refine cu_eql (by kernel_rfl) 25 25 (.tmp 53) (.tmp 54) rfl _ _ rfl rfl true HE2.out (by kernel_rfl) ?_))
    go_ret
    exact ⟨by first | rfl | exact ret_bool (by simp), HKW.out⟩
end Go.Proofs.Ytajipagpdphejaa
