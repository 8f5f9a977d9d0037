/- strongboxlaw05.CurveVerifies: the walk. No condition. | strongboxlaw05.CurveSigns: the walk. No condition. -/
import Derived.Test.YtajipagpdphejaaGE4
import Derived.Test.YtajipagpdphejaaGE3
namespace Go.Proofs.Ytajipagpdphejaa
set_option linter.unusedVariables false
set_option linter.unusedSimpArgs false
open Go Go.RowKit Cv Go.ChangeShapes Go.WideShapes Go.ChangeAt Go.WideMaps Go.ChangeMaps

theorem arrH : ArrKey Try.prog 44 5 32 := ⟨by kernel_rfl, by kernel_rfl, by kernel_rfl, by kernel_rfl⟩
theorem sz_hash' : (Try.prog.info? 44).map (·.size) = some 32 := by kernel_rfl
end Go.Proofs.Ytajipagpdphejaa
namespace Go.Proofs.Ytajipagpdphejaa
set_option linter.unusedVariables false
set_option linter.unusedSimpArgs false
open Go Go.RowKit Cv

theorem eq64 (l m : List Int) (h : Bytes l) (h' : Bytes m) (hl : l.length = 64) (hm : m.length = 64) (W : World) : (Op.equalIn 10000 56 (.agg (l.map (Value.int .u8)).toArray) (.agg (m.map (Value.int .u8)).toArray)).run Try.prog W = .ok (decide (l = m)) W :=
  arr_equal W 56 5 64 .u8 (by kernel_rfl) Try.underlying56 Try.underlying5 (by kernel_rfl) (by kernel_rfl) l m hl (byte_wf h) hm (byte_wf h')
theorem cv_run_eql {P : Program} {o : Oper} {a : Act} {w : World} (t t' : TypeId) (x y : Operand) (ho : o.op = .binOp .eql t x y t') (A B : Array Value) (hx : a.eval x = .agg A) (hy : a.eval y = .agg B) (r : Bool)
    (hE : ∀ W, (Op.equalIn 10000 t (.agg A) (.agg B)).run P W = .ok r W) (hm : P.eqGuardType P.depth t = false) : (execOp a.eval o).run P w = .ok (.value (.bool r)) w := by
  unfold execOp
  simp only [ho, hx, hy]
  simp only [Sem.run_bind, Sem.run_pure, run_eqGuard_agg _ _ _ _ _ _ _ hm, run_eql_struct, hE, Result.andThen_ok]
/-- what is signed is taken, and low -/
theorem signs_law (K M : List Int) (hK : Bytes K) (lK : K.length = 32) (hkey : keyB (be K) = true) :
    verV (pubV (be K)) M (signV K M) = true ∧ 0 ≤ be ((signV K M).drop 32) ∧ be ((signV K M).drop 32) < NV ∧ ¬ (0 - be ((signV K M).drop 32)) % NV < be ((signV K M).drop 32) := by
  have h1 := key_lt hkey
  have hn := nv_eq
  have hd : (be K).toNat < nVn := by omega
  obtain ⟨k', hk', hok, he⟩ := sgN_ok (d := (be K).toNat) (e := (be M % NV).toNat) 16 (nonceN K M).toNat zeroL64 (sg_one (by omega) hd _)
  have hsv : signV K M = sgB (be K).toNat (be M % NV).toNat k' := by unfold signV; rw [if_pos hkey, he]
  have hpv : pubV (be K) = pubB (be K).toNat := by unfold pubV; rw [if_pos hkey]
  rw [hsv, hpv]
  refine ⟨sg_taken (by omega) hd hk' hok, ?_⟩
  have hk0 : ¬ k' = 0 := fun h => by unfold sgOk at hok; rw [if_pos h] at hok; cases hok
  have hsl := sgS_lt (be K).toNat (be M % NV).toNat k'
  have hl1 := toB_length 32 (sgR k' : Int)
  have hS : be ((sgB (be K).toNat (be M % NV).toNat k').drop 32) = (sgS (be K).toNat (be M % NV).toNat k' : Int) := by
    unfold sgB
    rw [if_neg hk0, List.drop_left' hl1]
    exact be_toB32 (nat_nv hsl)
  have hs0 : ¬ sgS (be K).toNat (be M % NV).toNat k' = 0 := by
    unfold sgOk at hok
    rw [if_neg hk0, Bool.and_eq_true] at hok
    simpa using hok.2
  have hlow := sgS_low _ _ _ hs0
  rw [hS]
  generalize sgS (be K).toNat (be M % NV).toNat k' = s at *
  have e : (0 - (s : Int)) % NV = NV - s := by
    rw [Int.emod_eq_iff (by omega)]
    refine ⟨by omega, by omega, ⟨1, by omega⟩⟩
  have h2s : (s : Int) + s ≤ NV := by rw [hn]; omega
  rw [e]
  exact ⟨by omega, by omega, Int.not_lt.2 (by omega)⟩
theorem zeros8_lit : ((words8 0).map (Value.int .u32)).toArray = #[.int .u32 0, .int .u32 0, .int .u32 0, .int .u32 0, .int .u32 0, .int .u32 0, .int .u32 0, .int .u32 0] := by simp [words8, List.range_succ]
set_option maxRecDepth 100000 in
set_option maxHeartbeats 8000000 in
theorem signs_any (K M : List Int) (hK : Bytes K) (hM : Bytes M) (lK : K.length = 32) (lM : M.length = 32) (w : World) :
    Calls Try.prog 7 #[.agg (K.map (Value.int .u8)).toArray, .agg (M.map (Value.int .u8)).toArray] w fun e w' => e = .returned (.bool true) ∧ Keeps w w' := by
  have HAW := Lib.hid awake_any
  have HSG := Lib.hid (sign_any K M hK hM lK lM)
  have HPU := Lib.hid (public_any K hK lK)
  have l1 := signV_len K M
  have l3 := pubV_len (be K)
  have HE := Lib.hid (eq64 (signV K M) (signV K M) (signV_bytes _ _) (signV_bytes _ _) l1 l1)
  rw [decide_eq_true rfl] at HE
  have hds : ((signV K M).drop 32).length = 32 := by rw [List.length_drop, l1]
  have hbs : Bytes ((signV K M).drop 32) := fun x h => signV_bytes K M x (List.mem_of_mem_drop h)
  have HOF := Lib.hid (fun (v : Value) W hr => rof_any v ((signV K M).drop 32) W hr hbs hds)
  have hcs : (errV (be K) = 1 ∧ signV K M = zeroL64) ∨ (errV (be K) = 0 ∧ verV (pubV (be K)) M (signV K M) = true ∧ 0 ≤ be ((signV K M).drop 32) ∧ be ((signV K M).drop 32) < NV ∧ ¬ (0 - be ((signV K M).drop 32)) % NV < be ((signV K M).drop 32)) := by
    by_cases hkey : keyB (be K) = true
    · exact .inr ⟨by unfold errV; rw [if_pos hkey], signs_law K M hK lK hkey⟩
    · exact .inl ⟨by unfold errV; rw [if_neg hkey], by unfold signV; rw [if_neg hkey]⟩
  have HV := Lib.hid (fun (v v' : Value) W (hv : Rd W 1 v 33 ((pubV (be K)).map (Value.int .u8))) (hv' : Rd W 1 v' 64 ((signV K M).map (Value.int .u8))) => verify_any v v' (pubV (be K)) M (signV K M) (pubV_bytes _) hM (signV_bytes _ _) lM W (by rw [l3]; exact hv) (by rw [l1]; exact hv'))
  have HR := Lib.hid (fun (v v' : Value) W (hv : Rd W 1 v 33 ((pubV (be K)).map (Value.int .u8))) (hv' : Rd W 1 v' 64 ((signV K M).map (Value.int .u8))) => rverify_any v v' (pubV (be K)) M (signV K M) (pubV_bytes _) hM (signV_bytes _ _) lM W (by rw [l3]; exact hv) (by rw [l1]; exact hv'))
  have HEZ := Lib.hid (eq64 zeroL64 zeroL64 zeroL64_bytes zeroL64_bytes rfl rfl)
  rw [decide_eq_true rfl] at HEZ
  have hSU : U256 (be ((signV K M).drop 32)) := be_u256 hbs hds
  have HN := Lib.hid rn_any
  have hdrop : ((signV K M).map (Value.int .u8)).drop 32 = (((signV K M).drop 32).map (Value.int .u8)) := by rw [List.map_drop]
  generalize (signV K M).drop 32 = DS at *
  have hl8 := words8_length (be DS)
  have HSUB := Lib.hid (fun (h0 : 0 ≤ be DS) (h1 : be DS < NV) W => rsub_any NV 0 (be DS) NV_u256 ⟨by decide, by decide⟩ ⟨h0, h1⟩ W)
  rw [zeros8_lit] at HSUB
  have hmU : U256 ((0 - be DS) % NV) := ⟨Int.emod_nonneg _ (by decide), Int.lt_trans (Int.emod_lt_of_pos _ (by decide)) NV_u256.2⟩
  have HLS := Lib.hid (fun W => rless8_any ((0 - be DS) % NV) (be DS) hmU hSU W)
  clear hK hM hSU hmU
  generalize verV (pubV (be K)) M (signV K M) = VV at *
  generalize pubV (be K) = PK at *
  generalize signV K M = SG at *
  generalize errV (be K) = er at *
  have hls : (0 - be DS) % NV = (0 - be DS) % NV := rfl
  have HCS := Lib.hid hcs
  clear hcs hls
  go_enter Try.func7, Try.ntmps7
  go_upto_region 1 with (fail)
  refine cu_rows2 (fun W hk hra hrb hs => ?_)
  obtain ⟨p, hp⟩ : ∃ p, p = w.heap.size := ⟨_, rfl⟩
  rw [← hp] at hra hrb hs ⊢
  have HRA := Lib.hid (show Row W p 0 (K.map (Value.int .u8)) from hra); have HRB := Lib.hid (show Row W (p + 1) 0 (M.map (Value.int .u8)) from hrb); have HKW := Lib.hid hk
  clear hp hk hra hrb hs
  go_upto_region 3 with (go_at_call 9; refine (HAW.out _).mono ?_; rintro e W1 ⟨rfl, hk1⟩; have HK1 := Lib.hid hk1; clear hk1)
  have HRA := Lib.hid (HRA.out.keeps HK1.out); have HRB := Lib.hid (HRB.out.keeps HK1.out); have HKW := Lib.hid (HKW.out.trans HK1.out)
  clear HK1
  go_upto_region 4 with (first | (refine wpList_load_at rfl 22 (.tmp 2) rfl _ 0 rfl (K.map (Value.int .u8)) _ HRA.out Try.underlying22 rfl (by rw [List.length_map, lK]; exact sz_b32') ?_) | (refine wpList_load_at rfl 44 (.tmp 3) rfl _ 0 rfl (M.map (Value.int .u8)) _ HRB.out Try.underlying44 rfl (by rw [List.length_map, lM]; exact sz_hash') ?_) | (go_at_call 23; refine (HSG.out _).mono ?_; rintro e' W2 ⟨rfl, hk1⟩; have HK2 := Lib.hid hk1; clear hk1) | (refine wpList_store_row rfl 56 (.tmp 5) (.tmp 18) rfl W2.heap.size 0 rfl (zeroL64.map (Value.int .u8)) (SG.map (Value.int .u8)) rfl (Row.new _ _ _ rfl) (by rw [List.length_map, l1]; rfl) (by rw [List.length_map, l1]; exact sz_b64) (int_oneCell _) ?_; intro W3 hr2 hc2; have HR5 := Lib.hid hr2; have HK3 := Lib.hid (nm_keeps_chg (nm_keeps_alloc HK2.out _) hc2 HK2.out.size); clear hr2 hc2))
  generalize W2.heap.size = q at *
  have HRA := Lib.hid (HRA.out.keeps HK3.out); have HRB := Lib.hid (HRB.out.keeps HK3.out); have HKW := Lib.hid (HKW.out.trans HK3.out)
  clear HK3 HK2
  go_upto_region 5 with (first | (refine wpList_load_at rfl 22 (.tmp 2) rfl _ 0 rfl (K.map (Value.int .u8)) _ HRA.out Try.underlying22 rfl (by rw [List.length_map, lK]; exact sz_b32') ?_) | (go_at_call 10; refine (HPU.out _).mono ?_; rintro e' W4 ⟨rfl, hk1⟩; have HK4 := Lib.hid hk1; clear hk1) | (refine wpList_store_row rfl 25 (.tmp 7) (.tmp 23) rfl W4.heap.size 0 rfl (zeroL33.map (Value.int .u8)) (PK.map (Value.int .u8)) rfl (Row.new _ _ _ rfl) (by rw [List.length_map, l3]; rfl) (by rw [List.length_map, l3]; exact sz_b33) (int_oneCell _) ?_; intro W5 hr2 hc2; have HR7 := Lib.hid hr2; have HK5 := Lib.hid (nm_keeps_chg (nm_keeps_alloc HK4.out _) hc2 HK4.out.size); clear hr2 hc2))
  generalize W4.heap.size = q2 at *
  have HRA := Lib.hid (HRA.out.keeps HK5.out); have HR5 := Lib.hid (HR5.out.keeps HK5.out); have HRB := Lib.hid (HRB.out.keeps HK5.out); have HKW := Lib.hid (HKW.out.trans HK5.out)
  have hq2 : q2 < W5.heap.size := HR7.out.lt (map_ne l3)
  have hq : q < W5.heap.size := HR5.out.lt (map_ne l1)
  clear HK4 HK5
  rcases HCS.out with ⟨rfl, rfl⟩ | ⟨rfl, rfl, h0, h1, h2⟩
  · go_wp2_with (first | ((with_reducible refine gate_load 56 (.tmp 5) ?_); refine cu_load (by kernel_rfl) 56 (.tmp 5) rfl _ 0 rfl (zeroL64.map (Value.int .u8)) _ HR5.out Try.underlying56 rfl sz_b64 ?_) | ((with_reducible refine gate_bin .eql 56 56 (.tmp 34) (.tmp 35) ?_); refine cu_eql (by kernel_rfl) 56 56 (.tmp 34) (.tmp 35) rfl _ _ rfl rfl true HEZ.out (by kernel_rfl) ?_))
    go_ret
    exact ⟨by first | rfl | exact ret_bool (by simp), HKW.out⟩
  · have HSB := Lib.hid (HSUB.out h0 h1)
    have hlf : decide ((0 - be DS) % NV < be DS) = false := decide_eq_false (by omega)
    rw [hlf] at HLS
    have l8 := words8_length ((0 - be DS) % NV)
    clear HCS h0 h1 h2 hlf HSUB
    generalize words8 ((0 - be DS) % NV) = SB at *
    generalize words8 (be DS) = SS at *
    go_upto_region 8 with (first | (refine wpList_load_at rfl 22 (.tmp 2) rfl _ 0 rfl (K.map (Value.int .u8)) _ HRA.out Try.underlying22 rfl (by rw [List.length_map, lK]; exact sz_b32') ?_) | (refine wpList_load_at rfl 44 (.tmp 3) rfl _ 0 rfl (M.map (Value.int .u8)) _ HRB.out Try.underlying44 rfl (by rw [List.length_map, lM]; exact sz_hash') ?_) | (go_at_call 23; refine (HSG.out _).mono ?_; rintro e' W6 ⟨rfl, hk1⟩; have HK6 := Lib.hid hk1; clear hk1) | (refine wpList_store_row rfl 56 (.tmp 9) (.tmp 42) rfl W6.heap.size 0 rfl (zeroL64.map (Value.int .u8)) (SG.map (Value.int .u8)) rfl (Row.new _ _ _ rfl) (by rw [List.length_map, l1]; rfl) (by rw [List.length_map, l1]; exact sz_b64) (int_oneCell _) ?_; intro W7 hr2 hc2; have HR9 := Lib.hid hr2; have HK7 := Lib.hid (nm_keeps_chg (nm_keeps_alloc HK6.out _) hc2 HK6.out.size); clear hr2 hc2))
    generalize W6.heap.size = q3 at *
    have HR7 := Lib.hid (HR7.out.keeps HK7.out); have HR5 := Lib.hid (HR5.out.keeps HK7.out); have HRB := Lib.hid (HRB.out.keeps HK7.out); have HKW := Lib.hid (HKW.out.trans HK7.out)
    have hq2 : q2 < W7.heap.size := Nat.lt_of_lt_of_le hq2 HK7.out.size
    have hq : q < W7.heap.size := Nat.lt_of_lt_of_le hq HK7.out.size
    clear HK6 HK7 HRA
    have HRS := Lib.hid (show Rd W7 1 (.slice (some ⟨q, 32, none⟩) 32 32) 32 (DS.map (Value.int .u8)) from Rd.of_row (by rw [← hdrop]; exact HR5.out.drop 32) (by simp [hds]) hq (Nat.le_refl _) (by unfold maxLen; omega))
    clear hdrop
    go_upto_region 9 with (first | (go_at_call 24; refine (HOF.out _ _ HRS.out).mono ?_; rintro e' W8 ⟨rfl, hk1⟩; have HK8 := Lib.hid hk1; clear hk1) | (refine wpList_store_row rfl 37 (.tmp 11) (.tmp 45) rfl W8.heap.size 0 rfl zeros8 (SS.map (Value.int .u32)) rfl (Row.new _ _ _ rfl) (by rw [List.length_map, hl8]; rfl) (by rw [List.length_map, hl8]; exact sz_rnum) (int_oneCell _) ?_; intro W9 hr2 hc2; have HR11 := Lib.hid hr2; have HK9 := Lib.hid (nm_keeps_chg (nm_keeps_alloc HK8.out _) hc2 HK8.out.size); clear hr2 hc2))
    generalize W8.heap.size = q4 at *
    have HR7 := Lib.hid (HR7.out.keeps HK9.out); have HR5 := Lib.hid (HR5.out.keeps HK9.out); have HR9 := Lib.hid (HR9.out.keeps HK9.out); have HRB := Lib.hid (HRB.out.keeps HK9.out); have HKW := Lib.hid (HKW.out.trans HK9.out)
    have hq2 : q2 < W9.heap.size := Nat.lt_of_lt_of_le hq2 HK9.out.size
    have hq : q < W9.heap.size := Nat.lt_of_lt_of_le hq HK9.out.size
    clear HK8 HK9 HRS
    have HVP := Lib.hid (show Rd W9 1 (.slice (some ⟨q2, 0, none⟩) 33 33) 33 (PK.map (Value.int .u8)) from Rd.of_row HR7.out (by simp [l3]) hq2 (Nat.le_refl _) (by unfold maxLen; omega))
    have HVS := Lib.hid (show Rd W9 1 (.slice (some ⟨q, 0, none⟩) 64 64) 64 (SG.map (Value.int .u8)) from Rd.of_row HR5.out (by simp [l1]) hq (Nat.le_refl _) (by unfold maxLen; omega))
    refine wp_region_keep 28 [] [0, 1, 2, 3, 4, 5, 6, 7, 8, 9, 10, 11, 12, 13, 14, 15, 16, 17, 18, 19, 20, 21, 22, 23, 24, 25, 26, 27] (fun _ => []) (by kernel_rfl) (by kernel_rfl) (by intro i hi; cases hi) ?_
    refine keep_pure (o := ?_) (v := ?_) ?_ ?_ ?_ ?_
    rotate_left 2
    focus (simp only [kG]; exact rfl)
    focus rfl
    focus ((intro wS hS; go_simp) <;> with_reducible rfl)
    try simp only [kP]
    refine keep_pure (o := ?_) (v := ?_) ?_ ?_ ?_ ?_
    rotate_left 2
    focus (simp only [kG]; exact rfl)
    focus rfl
    focus ((intro wS hS; go_simp) <;> with_reducible rfl)
    try simp only [kP]
    refine keep_pure (o := ?_) (v := ?_) ?_ ?_ ?_ ?_
    rotate_left 2
    focus (simp only [kG]; exact rfl)
    focus rfl
    focus ((intro wS hS; go_simp) <;> with_reducible rfl)
    try simp only [kP]
    refine keep_pure (o := ?_) (v := ?_) ?_ ?_ ?_ ?_
    rotate_left 2
    focus (simp only [kG]; exact rfl)
    focus rfl
    focus (intro wS hS; (refine cu_run_load 56 (.tmp 5) ?_ q 0 ?_ (SG.map (Value.int .u8)) _ (HR5.out.keeps hS) Try.underlying56 rfl (by rw [List.length_map, l1]; exact sz_b64)) <;> rfl)
    try simp only [kP]
    refine keep_pure (o := ?_) (v := ?_) ?_ ?_ ?_ ?_
    rotate_left 2
    focus (simp only [kG]; exact rfl)
    focus rfl
    focus (intro wS hS; (refine cu_run_load 56 (.tmp 9) ?_ q3 0 ?_ (SG.map (Value.int .u8)) _ (HR9.out.keeps hS) Try.underlying56 rfl (by rw [List.length_map, l1]; exact sz_b64)) <;> rfl)
    try simp only [kP]
    refine keep_pure (o := ?_) (v := ?_) ?_ ?_ ?_ ?_
    rotate_left 2
    focus (simp only [kG]; exact rfl)
    focus rfl
    focus (intro wS hS; (refine cv_run_eql 56 56 (.tmp 49) (.tmp 50) ?_ _ _ ?_ ?_ true HE.out (by kernel_rfl)) <;> rfl)
    try simp only [kP]
    refine keep_pure (o := ?_) (v := ?_) ?_ ?_ ?_ ?_
    rotate_left 2
    focus (simp only [kG]; exact rfl)
    focus rfl
    focus ((intro wS hS; go_simp) <;> with_reducible rfl)
    try simp only [kP]
    refine keep_pure (o := ?_) (v := ?_) ?_ ?_ ?_ ?_
    rotate_left 2
    focus (simp only [kG]; exact rfl)
    focus rfl
    focus ((intro wS hS; go_simp) <;> with_reducible rfl)
    try simp only [kP]
    refine keep_pure (o := ?_) (v := ?_) ?_ ?_ ?_ ?_
    rotate_left 2
    focus (simp only [kG]; exact rfl)
    focus rfl
    focus ((intro wS hS; go_simp) <;> with_reducible rfl)
    try simp only [kP]
    refine keep_pure (o := ?_) (v := ?_) ?_ ?_ ?_ ?_
    rotate_left 2
    focus (simp only [kG]; exact rfl)
    focus rfl
    focus (intro wS hS; (refine cu_run_load 44 (.tmp 3) ?_ (p + 1) 0 ?_ (M.map (Value.int .u8)) _ (HRB.out.keeps hS) Try.underlying44 rfl (by rw [List.length_map, lM]; exact sz_hash')) <;> rfl)
    try simp only [kP]
    refine keep_pure (o := ?_) (v := ?_) ?_ ?_ ?_ ?_
    rotate_left 2
    focus (simp only [kG]; exact rfl)
    focus rfl
    focus ((intro wS hS; go_simp) <;> with_reducible rfl)
    try simp only [kP]
    refine keep_call (o := ?_) (f := ?_) (args := ?_) (v := ?_) ?_ ?_ ?_ ?_ ?_
    rotate_left 4
    focus (simp only [kG]; exact rfl)
    focus rfl
    focus (intro wS; go_simp; refine ⟨?_, ?_⟩ <;> with_reducible rfl)
    focus (intro wS hS; exact HV.out _ _ wS (HVP.out.keeps hS) (HVS.out.keeps hS))
    try simp only [kP]
    refine keep_pure (o := ?_) (v := ?_) ?_ ?_ ?_ ?_
    rotate_left 2
    focus (simp only [kG]; exact rfl)
    focus rfl
    focus ((intro wS hS; go_simp) <;> with_reducible rfl)
    try simp only [kP]
    refine keep_pure (o := ?_) (v := ?_) ?_ ?_ ?_ ?_
    rotate_left 2
    focus (simp only [kG]; exact rfl)
    focus rfl
    focus ((intro wS hS; go_simp) <;> with_reducible rfl)
    try simp only [kP]
    refine keep_pure (o := ?_) (v := ?_) ?_ ?_ ?_ ?_
    rotate_left 2
    focus (simp only [kG]; exact rfl)
    focus rfl
    focus ((intro wS hS; go_simp) <;> with_reducible rfl)
    try simp only [kP]
    refine keep_pure (o := ?_) (v := ?_) ?_ ?_ ?_ ?_
    rotate_left 2
    focus (simp only [kG]; exact rfl)
    focus rfl
    focus (intro wS hS; (refine cu_run_load 44 (.tmp 3) ?_ (p + 1) 0 ?_ (M.map (Value.int .u8)) _ (HRB.out.keeps hS) Try.underlying44 rfl (by rw [List.length_map, lM]; exact sz_hash')) <;> rfl)
    try simp only [kP]
    refine keep_pure (o := ?_) (v := ?_) ?_ ?_ ?_ ?_
    rotate_left 2
    focus (simp only [kG]; exact rfl)
    focus rfl
    focus ((intro wS hS; go_simp) <;> with_reducible rfl)
    try simp only [kP]
    refine keep_call (o := ?_) (f := ?_) (args := ?_) (v := ?_) ?_ ?_ ?_ ?_ ?_
    rotate_left 4
    focus (simp only [kG]; exact rfl)
    focus rfl
    focus (intro wS; go_simp; refine ⟨?_, ?_⟩ <;> with_reducible rfl)
    focus (intro wS hS; exact HR.out _ _ wS (HVP.out.keeps hS) (HVS.out.keeps hS))
    try simp only [kP]
    refine keep_pure (o := ?_) (v := ?_) ?_ ?_ ?_ ?_
    rotate_left 2
    focus (simp only [kG]; exact rfl)
    focus rfl
    focus ((intro wS hS; go_simp) <;> with_reducible rfl)
    try simp only [kP]
    refine keep_pure (o := ?_) (v := ?_) ?_ ?_ ?_ ?_
    rotate_left 2
    focus (simp only [kG]; exact rfl)
    focus rfl
    focus ((intro wS hS; go_simp) <;> with_reducible rfl)
    try simp only [kP]
    refine keep_pure (o := ?_) (v := ?_) ?_ ?_ ?_ ?_
    rotate_left 2
    focus (simp only [kG]; exact rfl)
    focus rfl
    focus ((intro wS hS; go_simp) <;> with_reducible rfl)
    try simp only [kP]
    refine keep_pure (o := ?_) (v := ?_) ?_ ?_ ?_ ?_
    rotate_left 2
    focus (simp only [kG]; exact rfl)
    focus rfl
    focus (intro wS hS; (refine cu_run_load 37 (.tmp 11) ?_ q4 0 ?_ (SS.map (Value.int .u32)) _ (HR11.out.keeps hS) Try.underlying37 rfl (by rw [List.length_map, hl8]; exact sz_rnum)) <;> rfl)
    try simp only [kP]
    refine keep_call (o := ?_) (f := ?_) (args := ?_) (v := ?_) ?_ ?_ ?_ ?_ ?_
    rotate_left 4
    focus (simp only [kG]; exact rfl)
    focus rfl
    focus (intro wS; go_simp; refine ⟨?_, ?_⟩ <;> with_reducible rfl)
    focus (intro wS hS; exact HN.out wS)
    try simp only [kP]
    refine keep_call (o := ?_) (f := ?_) (args := ?_) (v := ?_) ?_ ?_ ?_ ?_ ?_
    rotate_left 4
    focus (simp only [kG]; exact rfl)
    focus rfl
    focus (intro wS; go_simp; refine ⟨?_, ?_⟩ <;> with_reducible rfl)
    focus (intro wS hS; exact HSB.out wS)
    try simp only [kP]
    refine keep_pure (o := ?_) (v := ?_) ?_ ?_ ?_ ?_
    rotate_left 2
    focus (simp only [kG]; exact rfl)
    focus rfl
    focus (intro wS hS; (refine cu_run_load 37 (.tmp 11) ?_ q4 0 ?_ (SS.map (Value.int .u32)) _ (HR11.out.keeps hS) Try.underlying37 rfl (by rw [List.length_map, hl8]; exact sz_rnum)) <;> rfl)
    try simp only [kP]
    refine keep_call (o := ?_) (f := ?_) (args := ?_) (v := ?_) ?_ ?_ ?_ ?_ ?_
    rotate_left 4
    focus (simp only [kG]; exact rfl)
    focus rfl
    focus (intro wS; go_simp; refine ⟨?_, ?_⟩ <;> with_reducible rfl)
    focus (intro wS hS; exact HLS.out wS)
    try simp only [kP]
    refine keep_pure (o := ?_) (v := ?_) ?_ ?_ ?_ ?_
    rotate_left 2
    focus (simp only [kG]; exact rfl)
    focus rfl
    focus ((intro wS hS; go_simp) <;> with_reducible rfl)
    try simp only [kP]
    refine keep_pure (o := ?_) (v := ?_) ?_ ?_ ?_ ?_
    rotate_left 2
    focus (simp only [kG]; exact rfl)
    focus rfl
    focus ((intro wS hS; go_simp) <;> with_reducible rfl)
    try simp only [kP]
    refine keep_nil ?_
    intro GG V9 hk1 hG
    clear hG
    simp only [putsA, dstAt, Act.put, ptrV, List.drop_succ_cons, List.drop_zero, List.getElem?_toArray, List.getElem?_cons_succ, List.getElem?_cons_zero, Option.bind_some, List.setIfInBounds_toArray, List.set_cons_zero, List.set_cons_succ]
    have HKW := Lib.hid (HKW.out.trans hk1)
    clear hk1
    go_wp2
    go_ret
    exact ⟨by first | rfl | exact ret_bool (by simp), HKW.out⟩
end Go.Proofs.Ytajipagpdphejaa
