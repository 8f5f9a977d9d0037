/- curve's group on numbers: lift and the base. No condition. | What is read copied into a row; two blocks laid in a list of operations. No condition. | curve's group: pack. No condition. | The reference's Bytes and Pack. No condition. | The reference's Lift. No condition. | curve's group: unpack. No condition. -/
import Derived.Test.YtlofddoojkeakaaDoorGC4
import Derived.Test.YtlofddoojkeakaaDoorGA3
import Derived.Test.YtlofddoojkeakaaDoorGC3
import Derived.Test.YtlofddoojkeakaaDoorGB2
namespace Go.Proofs.YtlofddoojkeakaaDoor
set_option linter.unusedVariables false
set_option linter.unusedSimpArgs false
open Go Go.RowKit Cv

def liftC (x o : Nat) : List Int := match liftN x o with
  | some y => ptW ⟨x, y, 1⟩
  | none => List.replicate 12 0
theorem liftC_len (x o : Nat) : (liftC x o).length = 12 := by unfold liftC; split <;> rfl
theorem nw_par (y : Nat) : (nw y).getD 0 0 % 2 = ((y % 2 : Nat) : Int) := by
  have : (nw y).getD 0 0 = (y : Int) % 18446744073709551616 := rfl
  rw [this]; omega
theorem pneg_any (g : Nat) (y : Nat) (hy : y < PVn) (w : World) (hr : Row w g 0 gCells) :
    Calls Tryd.prog 80 #[.pointer (some ⟨g, 0, none⟩), .agg ((nw y).map (Value.int .u64)).toArray] w fun e w' => e = .returned (.agg ((nw ((PVn - y) % PVn)).map (Value.int .u64)).toArray) ∧ Keeps w w' := by
  have := neg_any g 0 PV y PV_u256 (nat_u256 hy) w (gCells_p hr)
  have e : (if (y : Int) = 0 then 0 else PV - (y : Int)) = (((PVn - y) % PVn : Nat) : Int) := by
    rw [pv_eq]
    split
    · rename_i h
      have : y = 0 := by omega
      subst this
      rw [Nat.sub_zero, Nat.mod_self]; rfl
    · rw [Nat.mod_eq_of_lt (by omega)]; omega
  rwa [e] at this
theorem ppow_any (g : Nat) (x e : Nat) (hx : x < PVn) (he : e < 2 ^ 256) (w : World) (hr : Row w g 0 gCells) :
    Calls Tryd.prog 78 #[.pointer (some ⟨g, 0, none⟩), .agg ((nw x).map (Value.int .u64)).toArray, .agg ((nw e).map (Value.int .u64)).toArray] w fun e' w' => e' = .returned (.agg ((nw (fpow x e)).map (Value.int .u64)).toArray) ∧ Keeps w w' := by
  have := pow_any g 0 PVn _ fld_pn x e (Nat.lt_trans hx (by decide)) he w (gc_p hr)
  rwa [← fpow_eq he] at this
theorem built_one' : Tryd.prog.built 70 [(0, .int .u64 1)] = some ((nw 1).map (Value.int .u64)).toArray := built_one
theorem built_seven : Tryd.prog.built 70 [(0, .int .u64 7)] = some ((nw 7).map (Value.int .u64)).toArray := by kernel_rfl
theorem lift_any (g : Nat) (x o : Nat) (hx : x < PVn) (w : World) (hr : Row w g 0 gCells) :
    Calls Tryd.prog 57 #[.pointer (some ⟨g, 0, none⟩), .agg ((nw x).map (Value.int .u64)).toArray, .int .u64 (o : Int)] w fun e w' => e = .returned (.tuple #[.agg ((liftC x o).map (Value.int .u64)).toArray, .bool (liftN x o).isSome]) ∧ Keeps w w' := by
  have hS : sqN x < PVn := fa_lt _ _
  have hY : fpow (sqN x) QVn < PVn := fpow_lt _ _ q_lt
  have h1 := fun W hk => pmul_any g x x hx hx W (hr.keeps (w' := W) hk)
  have h2 := fun W hk => pmul_any g (fm x x) x (fm_lt _ _) hx W (hr.keeps (w' := W) hk)
  have h3 : ∀ W, Keeps w W → Calls Tryd.prog 37 #[.pointer (some ⟨g, 0, none⟩), .agg ((nw (fm (fm x x) x)).map (Value.int .u64)).toArray, .agg ((nw 7).map (Value.int .u64)).toArray] W fun e w' => e = .returned (.agg ((nw (sqN x)).map (Value.int .u64)).toArray) ∧ Keeps W w' := fun W hk => padd_any g _ 7 (fm_lt _ _) (by decide) W (hr.keeps hk)
  have h4 := cplus_any PV 1
  have h5 := half_any (PV + 1) ⟨by decide, by decide⟩
  have h6 := half_any ((PV + 1) / 2) ⟨by decide, by decide⟩
  rw [show (PV + 1) / 2 / 2 = ((QVn : Nat) : Int) by decide] at h6
  have h7 := fun W hk => ppow_any g (sqN x) QVn hS q_lt W (hr.keeps (w' := W) hk)
  have h8 := fun W hk => pmul_any g _ _ hY hY W (hr.keeps (w' := W) hk)
  have hE := num_equal ((fm (fpow (sqN x) QVn) (fpow (sqN x) QVn) : Nat) : Int) ((sqN x : Nat) : Int) (nat_u256 (fm_lt _ _)) (nat_u256 hS)
  have hMM : Row w g 0 ((words PV).map (Value.int .u64)) := gCells_p hr
  have hdec : decide (((fm (fpow (sqN x) QVn) (fpow (sqN x) QVn) : Nat) : Int) = ((sqN x : Nat) : Int)) = decide (fm (fpow (sqN x) QVn) (fpow (sqN x) QVn) = sqN x) := by
    by_cases e : fm (fpow (sqN x) QVn) (fpow (sqN x) QVn) = sqN x
    · rw [e]; simp
    · rw [decide_eq_false e, decide_eq_false (fun h => e (by exact_mod_cast h))]
  rw [hdec] at hE
  have hlift : liftN x o = if fm (fpow (sqN x) QVn) (fpow (sqN x) QVn) = sqN x then some (if fpow (sqN x) QVn % 2 = o then fpow (sqN x) QVn else (PVn - fpow (sqN x) QVn) % PVn) else none := rfl
  have hng := fun W hk => pneg_any g _ hY W (hr.keeps (w' := W) hk)
  have hpar := nw_par (fpow (sqN x) QVn)
  generalize fpow (sqN x) QVn = y at *
  by_cases hsq : fm y y = sqN x
  · rw [if_pos hsq] at hlift
    rw [decide_eq_true hsq] at hE
    by_cases hp : y % 2 = o
    · rw [if_pos hp] at hlift
      have hc : liftC x o = ptW ⟨x, y, 1⟩ := by unfold liftC; rw [hlift]
      rw [hc, hlift]
      exact liftev_walk g (nw x) (nw (fm x x)) (nw (fm (fm x x) x)) (nw (sqN x)) (nw 7) (words PV) _ _ _ (nw y) (nw (fm y y)) (nw 1) (o : Int) (ptW ⟨x, y, 1⟩) rfl rfl (words_range _ 0 (by decide)) (by rw [hpar, hp]) rfl rfl rfl rfl rfl rfl w hMM built_seven built_one' h1 h2 h3 _ h4 h5 h6 h7 h8 hE
    · rw [if_neg hp] at hlift
      have hc : liftC x o = ptW ⟨x, (PVn - y) % PVn, 1⟩ := by unfold liftC; rw [hlift]
      rw [hc, hlift]
      exact liftod_walk g (nw x) (nw (fm x x)) (nw (fm (fm x x) x)) (nw (sqN x)) (nw 7) (words PV) _ _ _ (nw y) (nw (fm y y)) (nw 1) (o : Int) (nw ((PVn - y) % PVn)) (ptW ⟨x, (PVn - y) % PVn, 1⟩) rfl rfl rfl (words_range _ 0 (by decide)) (by rw [hpar]; intro e; exact hp (by exact_mod_cast e)) rfl rfl rfl rfl rfl rfl w hMM built_seven built_one' h1 h2 h3 _ h4 h5 h6 h7 h8 hE hng
  · rw [if_neg hsq] at hlift
    rw [decide_eq_false hsq] at hE
    have hc : liftC x o = List.replicate 12 0 := by unfold liftC; rw [hlift]
    rw [hc, hlift]
    exact liftno_walk g (nw x) (nw (fm x x)) (nw (fm (fm x x) x)) (nw (sqN x)) (nw 7) (words PV) _ _ _ (nw y) (nw (fm y y)) (nw 1) (o : Int) rfl rfl rfl rfl rfl rfl w hMM built_seven built_one' h1 h2 h3 _ h4 h5 h6 h7 h8 hE
theorem built_gx : Tryd.prog.built 70 [(0, .int .u64 6481385041966929816), (1, .int .u64 188021827762530521), (2, .int .u64 6170039885052185351), (3, .int .u64 8772561819708210092)] = some ((nw gxN).map (Value.int .u64)).toArray := by kernel_rfl
set_option maxRecDepth 100000 in
set_option maxHeartbeats 2000000 in
theorem base_walk (gv : Value) (GX PT : List Int) (lPT : PT.length = 12) (w : World) (hB : Tryd.prog.built 70 [(0, .int .u64 6481385041966929816), (1, .int .u64 188021827762530521), (2, .int .u64 6170039885052185351), (3, .int .u64 8772561819708210092)] = some (GX.map (Value.int .u64)).toArray)
    (hL : ∀ W, Keeps w W → Calls Tryd.prog 57 #[gv, .agg (GX.map (Value.int .u64)).toArray, .int .u64 0] W fun e w' => e = .returned (.tuple #[.agg (PT.map (Value.int .u64)).toArray, .bool true]) ∧ Keeps W w') :
    Calls Tryd.prog 42 #[gv] w fun e w' => e = .returned (.agg (PT.map (Value.int .u64)).toArray) ∧ Keeps w w' := by
  have HB := Lib.hid hB; have HL := Lib.hid hL; clear hB hL
  go_enter Tryd.func42, Tryd.ntmps42
  go_upto_region 1 with (fail)
  refine cu_rows1 (fun W hk hra hs => ?_)
  obtain ⟨p, hp⟩ : ∃ p, p = w.heap.size := ⟨_, rfl⟩
  rw [← hp] at hra hs ⊢
  have hkp : w.heap.size ≤ p := by omega
  obtain ⟨Zr, hZr, hrz⟩ : ∃ Zr : List Value, Zr.length = 12 ∧ Row W p 0 Zr := ⟨_, rfl, hra⟩
  have HKW := Lib.hid hk; have HRres := Lib.hid hrz
  clear hp hra hrz hk hs
  go_upto_region 2 with (first | (refine cu_build (by kernel_rfl) 70 _ rfl _ ?_ _ HB.out ?_; focus (simp only [List.map_toArray, List.map_cons, List.map_nil]; rfl)) | (go_at_call 57; refine (HL.out _ HKW.out).mono ?_; rintro e V1 ⟨rfl, hk1⟩; have HV1 := Lib.hid hk1; clear hk1) | (refine wpList_store_row rfl 76 (.tmp 3) (.tmp 9) rfl V1.heap.size 0 rfl ((List.replicate 12 (0 : Int)).map (Value.int .u64)) (PT.map (Value.int .u64)) rfl (Row.new _ _ _ rfl) (by rw [List.length_map, lPT]; rfl) (by rw [List.length_map, lPT]; exact sz_cpt) (int_oneCell _) ?_; intro W2 hr2 hc2; have HN := Lib.hid hr2; have HK2 := Lib.hid (nm_keeps_chg (nm_keeps_alloc HV1.out _) hc2 HV1.out.size); clear hr2 hc2))
  have HRres := Lib.hid (HRres.out.keeps HK2.out)
  have HKW := Lib.hid (HKW.out.trans HK2.out)
  go_wp2_with (first | (refine wpList_load_at rfl 76 (.tmp 3) rfl _ 0 rfl (PT.map (Value.int .u64)) _ HN.out Tryd.underlying76 rfl (by rw [List.length_map, lPT]; exact sz_cpt) ?_) | (refine wpList_store_row rfl 76 (.tmp 2) (.tmp 11) rfl _ 0 rfl Zr (PT.map (Value.int .u64)) rfl HRres.out (by rw [List.length_map, lPT, hZr]) (by rw [List.length_map, lPT]; exact sz_cpt) (int_oneCell _) ?_; intro W3 hr2 hc2; have HN3 := Lib.hid hr2; have HC := Lib.hid hc2; clear hr2 hc2))
  exact bodyPost_ret (results_cell_at (p := 2) (ty := 76) rfl _ _ p 0 _ _ rfl HN3.out Tryd.underlying76 rfl (by rw [List.length_map, lPT]; exact sz_cpt)) rfl ⟨rfl, nm_keeps_chg HKW.out HC.out (by omega)⟩
theorem base_any (g : Nat) (w : World) (hr : Row w g 0 gCells) :
    Calls Tryd.prog 42 #[.pointer (some ⟨g, 0, none⟩)] w fun e w' => e = .returned (.agg ((ptW gJ).map (Value.int .u64)).toArray) ∧ Keeps w w' :=
  base_walk _ (nw gxN) (ptW gJ) rfl w built_gx (fun W hk => by
    have := lift_any g gxN 0 (by decide) W (hr.keeps hk)
    have hc : liftC gxN 0 = ptW gJ := by unfold liftC; rw [g_lift]; rfl
    rw [hc, g_lift] at this
    exact this)
end Go.Proofs.YtlofddoojkeakaaDoor
namespace Go.Proofs.YtlofddoojkeakaaDoor
set_option linter.unusedVariables false
set_option linter.unusedSimpArgs false
open Go Go.RowKit

/-- what is read copied into a row -/
theorem cu_copy {w : World} {ops : Array Oper} {rest : List Oper} {o : Oper} {a : Act} {Q : Exit → Act → World → Prop} (hgd : o.guard = none) (d s : Operand)
    (ho : o.op = .call { callee := .builtin .copy, args := #[d, s], argTypes := #[38, 38] }) (g i m c1 : Nat) (hd : a.eval d = .slice (some ⟨g, i, none⟩) m c1) (sa : Option Addr) (n cap : Nat) (hs : a.eval s = .slice sa n cap) (hn : n ≤ m)
    (vs : List Value) (hg : Row w g 0 vs) (hl : i + n ≤ vs.length) (xs : List Value) (hr : Rd w 1 (.slice sa n cap) n xs) (h1 : ∀ v ∈ xs, v.oneCell' = true)
    (h : ∀ w', Row w' g 0 (vs.take i ++ xs ++ vs.drop (i + n)) → Chg (· = g) w w' → wpList Tryd.prog ops Q rest (a.put o.dst (goInt n)) w') : wpList Tryd.prog ops Q (o :: rest) a w := by
  have hxl : xs.length = n := by have := hr.1; simpa using this
  have sz : (Tryd.prog.info? 5).map (·.size) = some 1 := by kernel_rfl
  obtain ⟨_, a', cap', e, h2, h3, h4, h5⟩ := hr
  cases e
  by_cases h0 : n = 0
  · subst h0
    have hx0 : xs = [] := List.eq_nil_of_length_eq_zero hxl
    subst hx0
    exact wpList_copy_nothing hgd d s _ _ ho 5 Tryd.underlying38 sz _ _ _ _ _ _ hd hs (by simp) (h _ (by simpa using hg) (Chg.refl _ _))
  · cases sa with
    | none => exact absurd (h4 rfl).1 h0
    | some ad =>
      obtain ⟨g2, off2, rfl, _, hrow⟩ := h5 ad rfl (by omega)
      have hadd : ∀ j, (⟨g2, off2, none⟩ : Addr).add j = ⟨g2, off2 + j, none⟩ := fun j => by unfold Addr.add; split <;> simp_all
      have hsub := (hg.drop i).take n
      have hsl : ((vs.drop i).take n).length = n := by simp; omega
      rw [Nat.zero_add] at hsub
      have hld := run_loadCells_list (P := Tryd.prog) w ⟨g2, off2, none⟩ xs (fun j v hv => by rw [hadd]; exact (hrow j v hv).1)
      have hst := run_storeCells_cells (P := Tryd.prog) g i xs 0 w (fun j hj => by
          rw [Nat.add_zero]
          have := hsub j ((vs.drop i).take n)[j] (List.getElem?_eq_getElem (by omega))
          rw [this.1]; rfl) (fun j hj => by
          rw [Nat.add_zero]
          exact (hsub j ((vs.drop i).take n)[j] (List.getElem?_eq_getElem (by omega))).2) h1
      simp only [Nat.add_zero] at hst
      refine wpList_plain hgd fun K hK => ?_
      cases hq : Tryd.prog.info? 5 with
      | none => simp [hq] at sz
      | some x =>
        have hx : x.size = 1 := by simpa [hq] using sz
        have hmin : Nat.min n m = n := Nat.min_eq_left hn
        have hrun : (Builtin.copy_ #[38, 38] o.type #[.slice (some ⟨g, i, none⟩) m c1, .slice (some ⟨g2, off2, none⟩) n cap]).run Tryd.prog w = .ok (goInt n) (w.setCells g i xs) := by
          rw [hxl] at hld
          simp [Builtin.copy_, run_underlying Tryd.underlying38, Builtin.lenOf, Builtin.firstCells, sizeOf, typeInfo, hq, hx, hmin, hld, hst]
        unfold Oper.wp
        simp [execOp, ho, resolve, invoke, builtin, hd, hs, hrun, Result.andThen]
        have hrow2 := Row.setCells (w := w) xs i hg (by omega)
        rw [Nat.zero_add, hxl] at hrow2
        exact hK _ _ (h _ hrow2 (setCells_chg _ _ _ _))
theorem cu_wl2 {P : Program} {ops : Array Oper} {l : List Oper} {Q : Exit → Act → World → Prop} {a : Act} {w : World} {A B : Array Value} {T U : TypeId}
    (h : ∀ W, Keeps w W → Row W w.heap.size 0 A.toList → Row W (w.heap.size + 1) 0 B.toList → W.heap.size = w.heap.size + 2 → wpList P ops Q l a W) :
    wpList P ops Q l a ((w.alloc (.cells A T)).alloc (.cells B U)) := by
  have h0 := Row.new (w := w) A.toList A T (by simp)
  have h1 := Row.new (w := w.alloc (.cells A T)) B.toList B U (by simp)
  simp only [World.size_alloc] at h1
  exact h _ (nm_keeps_alloc (nm_keeps_alloc (Keeps.refl w) _) _) (h0.alloc _) h1 (by simp)
end Go.Proofs.YtlofddoojkeakaaDoor
namespace Go.Proofs.YtlofddoojkeakaaDoor
set_option linter.unusedVariables false
set_option linter.unusedSimpArgs false
open Go Go.RowKit Cv

theorem sz_b33 : (Tryd.prog.info? 25).map (·.size) = some 33 := by kernel_rfl
set_option maxRecDepth 100000 in
set_option maxHeartbeats 8000000 in
theorem pack_walk (gv : Value) (PT XL YL BX : List Int) (lPT : PT.length = 12) (lXL : XL.length = 4) (lYL : YL.length = 4) (lBX : BX.length = 32) (hy0 : 0 ≤ YL.getD 0 0 ∧ YL.getD 0 0 < 18446744073709551616) (w : World)
    (hF : ∀ W, Keeps w W → Calls Tryd.prog 70 #[gv, .agg (PT.map (Value.int .u64)).toArray] W fun e w' => e = .returned (.tuple #[.agg (XL.map (Value.int .u64)).toArray, .agg (YL.map (Value.int .u64)).toArray]) ∧ Keeps W w')
    (hB : ∀ W, Calls Tryd.prog 39 #[.agg (XL.map (Value.int .u64)).toArray] W fun e w' => e = .returned (.agg (BX.map (Value.int .u8)).toArray) ∧ Keeps W w') :
    Calls Tryd.prog 44 #[gv, .agg (PT.map (Value.int .u64)).toArray] w fun e w' => e = .returned (.agg (((2 + YL.getD 0 0 % 2) :: BX).map (Value.int .u8)).toArray) ∧ Keeps w w' := by
  have HF := Lib.hid hF; have HB := Lib.hid hB; clear hF hB
  go_enter Tryd.func44, Tryd.ntmps44
  go_upto_region 2 with (fail)
  refine wp_rows3 (fun W hk hra hrb hrc hs => ?_)
  obtain ⟨p, hp⟩ : ∃ p, p = w.heap.size := ⟨_, rfl⟩
  rw [← hp] at hra hrb hrc hs ⊢
  have hkp : w.heap.size ≤ p := by omega
  obtain ⟨Zr, hZr, hrz⟩ : ∃ Zr : List Value, Zr.length = 33 ∧ Row W (p + 1) 0 Zr := ⟨_, rfl, hrb⟩
  have HRA := Lib.hid (show Row W p 0 (PT.map (Value.int .u64)) from hra)
  have HRO := Lib.hid (show Row W (p + 1 + 1) 0 ((List.replicate 33 (0 : Int)).map (Value.int .u8)) from hrc)
  have HKW := Lib.hid hk; have HRres := Lib.hid hrz
  have hsz : p + 1 + 1 < W.heap.size := by omega
  clear hp hra hrb hrc hrz hk hs
  go_upto_region 3 with (first | (refine wpList_load_at rfl 76 (.tmp 3) rfl _ 0 rfl (PT.map (Value.int .u64)) _ HRA.out Tryd.underlying76 rfl (by rw [List.length_map, lPT]; exact sz_cpt) ?_) | (go_at_call 70; refine (HF.out _ HKW.out).mono ?_; rintro e V1 ⟨rfl, hk1⟩; have HV1 := Lib.hid hk1; clear hk1) | (refine cu_wl2 (fun Wa hka hr1 hr2 hs2 => ?_); have HKA := Lib.hid (HV1.out.trans hka); have HZ1 := Lib.hid (show Row Wa V1.heap.size 0 zeros4 from hr1); have HZ2 := Lib.hid (show Row Wa (V1.heap.size + 1) 0 zeros4 from hr2); clear hka hr1 hr2 hs2) | (refine wpList_store_row rfl 70 (.tmp 6) (.tmp 13) rfl _ 0 rfl zeros4 (XL.map (Value.int .u64)) rfl HZ1.out (by rw [List.length_map, lXL]; rfl) (by rw [List.length_map, lXL]; exact sz_cnum) (int_oneCell _) ?_; intro W2 hr2 hc2; have HN1 := Lib.hid hr2; have HC1 := Lib.hid hc2; clear hr2 hc2) | (refine wpList_store_row rfl 70 (.tmp 7) (.tmp 14) rfl _ 0 rfl zeros4 (YL.map (Value.int .u64)) rfl (HZ2.out.chg HC1.out (by omega)) (by rw [List.length_map, lYL]; rfl) (by rw [List.length_map, lYL]; exact sz_cnum) (int_oneCell _) ?_; intro W3 hr2 hc2; have HN2 := Lib.hid hr2; have HC2 := Lib.hid hc2; clear hr2 hc2))
  have hq : W.heap.size ≤ V1.heap.size := HV1.out.size
  have HK2 := Lib.hid (nm_keeps_chg (nm_keeps_chg HKA.out HC1.out hq) HC2.out (by omega))
  have HRX := Lib.hid (HN1.out.chg HC2.out (by omega))
  have HRY := HN2
  have HRO := Lib.hid (HRO.out.keeps HK2.out)
  have HRres := Lib.hid (HRres.out.keeps HK2.out)
  have HKW := Lib.hid (HKW.out.trans HK2.out)
  have hlt2 : V1.heap.size + 1 < W3.heap.size := HN2.out.lt (map_ne lYL)
  generalize V1.heap.size = q at *
  go_upto_region 4 with (first | (refine wpList_load_at rfl 70 (.tmp 6) rfl _ 0 rfl (XL.map (Value.int .u64)) _ HRX.out Tryd.underlying70 rfl (by rw [List.length_map, lXL]; exact sz_cnum) ?_) | (go_at_call 39; refine (HB.out _).mono ?_; rintro e V2 ⟨rfl, hk1⟩; have HV2 := Lib.hid hk1; clear hk1) | (refine wpList_store_row rfl 24 (.tmp 8) (.tmp 16) rfl V2.heap.size 0 rfl ((List.replicate 32 (0 : Int)).map (Value.int .u8)) (BX.map (Value.int .u8)) rfl (Row.new _ _ _ rfl) (by rw [List.length_map, lBX]; rfl) (by rw [List.length_map, lBX]; exact sz_b32') (int_oneCell _) ?_; intro W4 hr2 hc2; have HN3 := Lib.hid hr2; have HK3 := Lib.hid (nm_keeps_chg (nm_keeps_alloc HV2.out _) hc2 HV2.out.size); clear hr2 hc2))
  have hq2 : W3.heap.size ≤ V2.heap.size := HV2.out.size
  have hlt3 : V2.heap.size < W4.heap.size := HN3.out.lt (map_ne lBX)
  generalize V2.heap.size = r at *
  have HRY := Lib.hid (HRY.out.keeps HK3.out)
  have HRO := Lib.hid (HRO.out.keeps HK3.out)
  have HRres := Lib.hid (HRres.out.keeps HK3.out)
  have HKW := Lib.hid (HKW.out.trans HK3.out)
  have cy := HRY.out.int0 0 (by rw [lYL]; decide)
  have co := HRO.out.int0 0 (by simp)
  have fo := HRO.out.free0 0 (by simp)
  have hset := HRO.out.setInt0 0 (by simp) (2 + YL.getD 0 0 % 2)
  have HSET := Lib.hid hset
  clear hset
  generalize hy9 : YL.getD 0 0 = y0 at *
  have HY9 := Lib.hid hy9; clear hy9
  have hand : bits .and .u64 y0 1 = y0 % 2 := bits_and_one hy0.1 hy0.2
  go_upto_region 5 with (fail)
  refine wp_gen (fun W => Keeps w W ∧ Row W (p + 1 + 1) 0 (((2 + y0 % 2) :: List.replicate 32 (0 : Int)).map (Value.int .u8)) ∧ Row W (p + 1) 0 Zr ∧ Row W r 0 (BX.map (Value.int .u8)) ∧ r < W.heap.size) ⟨keeps_set HKW.out (by omega) _, HSET.out, HRres.out.other (show p + 1 ≠ p + 1 + 1 by omega) _, HN3.out.other (show r ≠ p + 1 + 1 by omega) _, by simpa using hlt3⟩ ?_
  rintro W5 ⟨hk5, hro5, hrz5, hrb5, hlt5⟩
  have HKW := Lib.hid hk5; have HRO := Lib.hid hro5; have HRres := Lib.hid hrz5; have HRB := Lib.hid hrb5
  clear hk5 hro5 hrz5 hrb5 HSET cy co fo hand HN3 HRX
  have hcp : ∀ v : Int, ((v :: List.replicate 32 (0 : Int)).map (Value.int .u8)).take 1 ++ BX.map (Value.int .u8) ++ ((v :: List.replicate 32 (0 : Int)).map (Value.int .u8)).drop 33 = (v :: BX).map (Value.int .u8) := fun v => by
    rw [List.drop_eq_nil_of_le (by simp), List.append_nil]; rfl
  have HCP := Lib.hid (hcp (2 + y0 % 2))
  clear hcp
  generalize hv9 : 2 + y0 % 2 = v0 at *
  have HV9 := Lib.hid hv9; clear hv9
  have lPK : (v0 :: BX).length = 33 := by rw [List.length_cons, lBX]
  refine wp_region_quiet_tail 2 (by kernel_rfl) (by kernel_rfl) ?_
  simp only [List.take_succ_cons, List.take_zero, List.drop_succ_cons, List.drop_zero]
  repeat (first | go_big_quiet_step (fail) | quiet_step (fail))
  refine wpQuiet_nil ?_
  intro _ hw'
  obtain ⟨nq, hw''⟩ := hw'
  subst hw''
  refine cu_copy rfl (.tmp 23) (.tmp 24) rfl (p + 1 + 1) 1 32 32 rfl (some ⟨r, 0, none⟩) 32 32 rfl (Nat.le_refl _) ((v0 :: List.replicate 32 (0 : Int)).map (Value.int .u8)) (HRO.out.drewN nq) (by simp) (BX.map (Value.int .u8)) (Rd.of_row (HRB.out.drewN nq) (by simp [lBX]) (by show r < W5.heap.size; omega) (by omega) (by unfold maxLen; omega)) (int_oneCell _) (fun W6 hr6 hc6 => ?_)
  have hr6 : Row W6 (p + 1 + 1) 0 (((v0 :: List.replicate 32 (0 : Int)).map (Value.int .u8)).take 1 ++ BX.map (Value.int .u8) ++ ((v0 :: List.replicate 32 (0 : Int)).map (Value.int .u8)).drop 33) := hr6
  rw [HCP.out] at hr6
  have HR6 := Lib.hid hr6
  have HRres := Lib.hid ((HRres.out.drewN nq).chg hc6 (by omega))
  have HKW := Lib.hid (nm_keeps_chg (HKW.out.trans (Qt.drewN W5 nq).keeps) hc6 (by omega))
  clear hr6 hc6 HCP HRO HRB
  generalize hp9 : v0 :: BX = PK at *
  have HP9 := Lib.hid hp9; clear hp9
  go_wp2_with (first | (refine wpList_load_at rfl 25 (.tmp 5) rfl _ 0 rfl (PK.map (Value.int .u8)) _ HR6.out Tryd.underlying25 rfl (by rw [List.length_map, lPK]; exact sz_b33) ?_) | (refine wpList_store_row rfl 25 (.tmp 4) (.tmp 26) rfl _ 0 rfl Zr (PK.map (Value.int .u8)) rfl HRres.out (by rw [List.length_map, lPK, hZr]) (by rw [List.length_map, lPK]; exact sz_b33) (int_oneCell _) ?_; intro W7 hr2 hc2; have HN := Lib.hid hr2; have HC := Lib.hid hc2; clear hr2 hc2))
  exact bodyPost_ret (results_cell_at (p := 4) (ty := 25) rfl _ _ (p + 1) 0 _ _ rfl HN.out Tryd.underlying25 rfl (by rw [List.length_map, lPK]; exact sz_b33)) rfl ⟨by rw [HY9.out, HV9.out, HP9.out], nm_keeps_chg HKW.out HC.out (by omega)⟩
/-- a point as bytes: x, and whether y is odd -/
def pkB (x y : Nat) : List Int := (2 + ((y % 2 : Nat) : Int)) :: toB 32 (x : Int)
theorem pack_any (g : Nat) (a : J) (h : a.ok) (w : World) (hr : Row w g 0 gCells) :
    Calls Tryd.prog 44 #[.pointer (some ⟨g, 0, none⟩), .agg ((ptW a).map (Value.int .u64)).toArray] w fun e w' => e = .returned (.agg ((pkB (flatJ a).1 (flatJ a).2).map (Value.int .u8)).toArray) ∧ Keeps w w' := by
  have := pack_walk (.pointer (some ⟨g, 0, none⟩)) (ptW a) (nw (flatJ a).1) (nw (flatJ a).2) (toB 32 ((flatJ a).1 : Int)) rfl rfl rfl (toB_length _ _) (words_range _ 0 (by decide)) w (fun W hk => flat_any g a h W (hr.keeps hk)) (fun W => cbytes_any _ W)
  rw [nw_par] at this
  exact this
/-- one added, word by word -/
structure IncSt (C : Int) (k : Nat) (L : List Int) (c : Int) : Prop where
  len : L.length = 8
  dg : Digs 4294967296 L
  cc : c = 0 ∨ c = 1
  val : val 4294967296 L + c * 4294967296 ^ k = C
theorem IncSt.step {C : Int} {k : Nat} {L : List Int} {c c' t' : Int} (h : IncSt C k L c) (hk : k < 8) (h0 : 0 ≤ t') (h1 : t' < 4294967296) (h2 : c' = 0 ∨ c' = 1)
    (e : t' + 4294967296 * c' = L.getD k 0 + c) : IncSt C (k + 1) (L.set k t') c' :=
  ⟨by rw [List.length_set]; exact h.len, h.dg.set _ h0 h1, h2, carry_step' (by rw [h.len]; omega) h.val e⟩
theorem IncSt.done {C : Int} {L : List Int} {c : Int} (h : IncSt C 8 L c) (hC : C < 115792089237316195423570985008687907853269984665640564039457584007913129639936) : L = words8 C := by
  have h0 : c = 0 := carry_none (B := 4294967296) (by decide) h.dg (by have := h.cc; omega) h.val (by rw [B32_eight]; exact hC)
  have hv := h.val
  rw [h0, Int.zero_mul, Int.add_zero] at hv
  rw [← hv]
  exact words8_val h.dg h.len
/-- the memory of Lift -/
def LMem (w wr : World) (p g1 g2 g3 : Nat) (X M S E : List Int) (Z : List Value) : Prop := Keeps w wr ∧ Row wr p 0 (X.map (Value.int .u32)) ∧ Row wr (p + 1) 0 Z ∧ Row wr g1 0 (M.map (Value.int .u32)) ∧ Row wr g2 0 (S.map (Value.int .u32)) ∧ Row wr g3 0 (E.map (Value.int .u32)) ∧ p + 1 < g1 ∧ g1 < g2 ∧ g2 < g3 ∧ g3 < wr.heap.size
theorem LMem.keeps {w wr w' : World} {p g1 g2 g3 : Nat} {X M S E : List Int} {Z : List Value} (h : LMem w wr p g1 g2 g3 X M S E Z) (hk : Keeps wr w') : LMem w w' p g1 g2 g3 X M S E Z :=
  ⟨h.1.trans hk, h.2.1.keeps hk, h.2.2.1.keeps hk, h.2.2.2.1.keeps hk, h.2.2.2.2.1.keeps hk, h.2.2.2.2.2.1.keeps hk, h.2.2.2.2.2.2.1, h.2.2.2.2.2.2.2.1, h.2.2.2.2.2.2.2.2.1, Nat.lt_of_lt_of_le h.2.2.2.2.2.2.2.2.2 hk.size⟩
theorem LMem.set {w wr : World} {p g1 g2 g3 : Nat} {X M S E : List Int} {Z : List Value} (h : LMem w wr p g1 g2 g3 X M S E Z) (hp : w.heap.size ≤ p) {i : Nat} (hi : i < E.length) (t : Int) : LMem w (wr.setCell ⟨g3, i, none⟩ (.int .u32 t)) p g1 g2 g3 X M S (E.set i t) Z :=
  have o := h.2.2.2.2.2.2
  ⟨keeps_set h.1 (show w.heap.size ≤ g3 by omega) _, h.2.1.other (show p ≠ g3 by omega) _, h.2.2.1.other (show p + 1 ≠ g3 by omega) _, h.2.2.2.1.other (show g1 ≠ g3 by omega) _, h.2.2.2.2.1.other (show g2 ≠ g3 by omega) _, h.2.2.2.2.2.1.setInt0 i hi t, o.1, o.2.1, o.2.2.1, by simpa using o.2.2.2⟩
theorem LMem.chg {w wr w' : World} {p g1 g2 g3 n : Nat} {X M S E : List Int} {Z : List Value} (h : LMem w wr p g1 g2 g3 X M S E Z) (hc : Chg (· = n) wr w') (hp : w.heap.size ≤ p) (hn : g3 < n) : LMem w w' p g1 g2 g3 X M S E Z :=
  have o := h.2.2.2.2.2.2
  ⟨nm_keeps_chg h.1 hc (by omega), h.2.1.chg hc (by omega), h.2.2.1.chg hc (by omega), h.2.2.2.1.chg hc (by omega), h.2.2.2.2.1.chg hc (by omega), h.2.2.2.2.2.1.chg hc (by omega), o.1, o.2.1, o.2.2.1, Nat.lt_of_lt_of_le o.2.2.2 hc.size⟩
theorem andnot_one {x : Int} (h0 : 0 ≤ x) (h1 : x < 256) : bits .andNot .u8 x 1 = x - x % 2 := by
  obtain ⟨n, rfl⟩ := Int.eq_ofNat_of_zero_le h0
  have : ∀ k : Fin 256, bits .andNot .u8 (k.val : Int) 1 = (k.val : Int) - (k.val : Int) % 2 := by decide +kernel
  exact this ⟨n, by omega⟩
theorem and_one8 {x : Int} (h0 : 0 ≤ x) (h1 : x < 256) : bits .and .u8 x 1 = x % 2 := by
  obtain ⟨n, rfl⟩ := Int.eq_ofNat_of_zero_le h0
  have : ∀ k : Fin 256, bits .and .u8 (k.val : Int) 1 = (k.val : Int) % 2 := by decide +kernel
  exact this ⟨n, by omega⟩
def zero12 : List Int := List.replicate 12 0
set_option maxRecDepth 100000 in
set_option maxHeartbeats 4000000 in
theorem unplen_walk (gv : Value) (sa : Option Addr) (n cap : Nat) (hn : ¬ n = 33) (hn2 : (n : Int) < 9223372036854775808) (w : World) :
    Calls Tryd.prog 32 #[gv, .slice sa n cap] w fun e w' => e = .returned (.tuple #[.agg (zero12.map (Value.int .u64)).toArray, .bool false]) ∧ Keeps w w' := by
  have z1 : ((n : Int) != 33) = true := by rw [bne_iff_ne]; omega
  go_enter Tryd.func32, Tryd.ntmps32
  go_upto_region 1 with (fail)
  refine cu_rows1 (fun W hk hra hs => ?_)
  obtain ⟨p, hp⟩ : ∃ p, p = w.heap.size := ⟨_, rfl⟩
  rw [← hp] at hra hs ⊢
  have hkp : w.heap.size ≤ p := by omega
  obtain ⟨Zr, hZr, hrz⟩ : ∃ Zr : List Value, Zr.length = 12 ∧ Row W p 0 Zr := ⟨_, rfl, hra⟩
  have HKW := Lib.hid hk; have HRres := Lib.hid hrz
  clear hp hra hrz hk hs
  go_wp2_with (refine wpList_store_row rfl 76 (.tmp 4) (.tmp 17) rfl _ 0 rfl Zr (zero12.map (Value.int .u64)) rfl HRres.out (by rw [hZr]; rfl) sz_cpt (int_oneCell _) ?_; intro W2 hr2 hc2; have HN := Lib.hid hr2; have HC := Lib.hid hc2; clear hr2 hc2)
  exact bodyPost_ret (results_cell_tmpB (p := 4) (t := 5) (ty := 76) rfl _ _ p 0 _ _ _ rfl rfl HN.out Tryd.underlying76 rfl sz_cpt) rfl ⟨rfl, nm_keeps_chg HKW.out HC.out (by omega)⟩
set_option maxRecDepth 100000 in
set_option maxHeartbeats 4000000 in
theorem unpb0_walk (gv : Value) (g off cap : Nat) (l : List Int) (hl : l.length = 33) (hb : Bytes l) (hbad : ¬ l.getD 0 0 - l.getD 0 0 % 2 = 2) (w : World) (hg : Row w g off (l.map (Value.int .u8))) :
    Calls Tryd.prog 32 #[gv, .slice (some ⟨g, off, none⟩) 33 cap] w fun e w' => e = .returned (.tuple #[.agg (zero12.map (Value.int .u64)).toArray, .bool false]) ∧ Keeps w w' := by
  have hb0 := hb.getD 0
  have HG := Lib.hid hg
  have hl0 : 0 < l.length := by omega
  clear hg hb
  go_enter Tryd.func32, Tryd.ntmps32
  go_upto_region 1 with (fail)
  refine cu_rows1 (fun W hk hra hs => ?_)
  obtain ⟨p, hp⟩ : ∃ p, p = w.heap.size := ⟨_, rfl⟩
  rw [← hp] at hra hs ⊢
  have hkp : w.heap.size ≤ p := by omega
  obtain ⟨Zr, hZr, hrz⟩ : ∃ Zr : List Value, Zr.length = 12 ∧ Row W p 0 Zr := ⟨_, rfl, hra⟩
  have HKW := Lib.hid hk; have HRres := Lib.hid hrz
  have c0 := (HG.out.keeps hk).int 0 hl0
  rw [Nat.add_zero] at c0
  clear hp hra hrz hk hs HG hl0 hl
  generalize l.getD 0 0 = b0 at *
  have hand : bits .andNot .u8 b0 1 = b0 - b0 % 2 := andnot_one hb0.1 (by have := hb0.2; omega)
  have z1 : (b0 - b0 % 2 != 2) = true := by rw [bne_iff_ne]; exact hbad
  clear hbad hb0
  go_wp2_with (refine wpList_store_row rfl 76 (.tmp 4) (.tmp 17) rfl _ 0 rfl Zr (zero12.map (Value.int .u64)) rfl HRres.out (by rw [hZr]; rfl) sz_cpt (int_oneCell _) ?_; intro W2 hr2 hc2; have HN := Lib.hid hr2; have HC := Lib.hid hc2; clear hr2 hc2)
  exact bodyPost_ret (results_cell_tmpB (p := 4) (t := 5) (ty := 76) rfl _ _ p 0 _ _ _ rfl rfl HN.out Tryd.underlying76 rfl sz_cpt) rfl ⟨rfl, nm_keeps_chg HKW.out HC.out (by omega)⟩
end Go.Proofs.YtlofddoojkeakaaDoor
