/- The reference's Plus, Zero and Times on numbers. No condition. | The reference's Times. No condition. -/
import Derived.Test.YtajipagpdphejaaGC5
import Derived.Test.YtajipagpdphejaaGC8
import Derived.Test.YtajipagpdphejaaGB5
namespace Go.Proofs.Ytajipagpdphejaa
set_option linter.unusedVariables false
set_option linter.unusedSimpArgs false
open Go Go.RowKit Cv

def nw8 (x : Nat) : List Int := words8 (x : Int)
def ptR (a : J) : List Int := nw8 a.x ++ nw8 a.y ++ nw8 a.z
theorem nw8_len (x : Nat) : (nw8 x).length = 8 := words8_length _
theorem ptR_len (a : J) : (ptR a).length = 24 := by unfold ptR; rw [List.length_append, List.length_append, nw8_len, nw8_len, nw8_len]
theorem rmod_pn : RMod ((PVn : Nat) : Int) := by rw [← pv_eq]; exact rmod_p
theorem rmod_nn : RMod ((nVn : Nat) : Int) := by rw [← nv_eq]; exact rmod_n
theorem rpn_any (w : World) : Calls Try.prog 38 #[] w fun e w' => e = .returned (.agg ((nw8 PVn).map (Value.int .u32)).toArray) ∧ Keeps w w' := by
  have := rp_any w
  rwa [pv_eq] at this
theorem rpmul_any (x y : Nat) (hx : x < PVn) (hy : y < PVn) (w : World) :
    Calls Try.prog 49 #[.agg ((nw8 x).map (Value.int .u32)).toArray, .agg ((nw8 y).map (Value.int .u32)).toArray, .agg ((nw8 PVn).map (Value.int .u32)).toArray] w fun e w' => e = .returned (.agg ((nw8 (fm x y)).map (Value.int .u32)).toArray) ∧ Keeps w w' := by
  have := rmul_any _ x y rmod_pn (nat_u256 hx) (nat_u256 hy) w
  have e : ((x : Int) * (y : Int) % ((PVn : Nat) : Int)) = ((fm x y : Nat) : Int) := by unfold fm; rw [Int.natCast_emod, Int.natCast_mul]
  rwa [e] at this
theorem rpadd_any (x y : Nat) (hx : x < PVn) (hy : y < PVn) (w : World) :
    Calls Try.prog 56 #[.agg ((nw8 x).map (Value.int .u32)).toArray, .agg ((nw8 y).map (Value.int .u32)).toArray, .agg ((nw8 PVn).map (Value.int .u32)).toArray] w fun e w' => e = .returned (.agg ((nw8 (fa x y)).map (Value.int .u32)).toArray) ∧ Keeps w w' := by
  have := radd_any _ x y rmod_pn (nat_u256 hx) (nat_u256 hy) w
  have e : (((x : Int) + (y : Int)) % ((PVn : Nat) : Int)) = ((fa x y : Nat) : Int) := by unfold fa; rw [Int.natCast_emod, Int.natCast_add]
  rwa [e] at this
theorem rpsub_any (x y : Nat) (hx : x < PVn) (hy : y < PVn) (w : World) :
    Calls Try.prog 26 #[.agg ((nw8 x).map (Value.int .u32)).toArray, .agg ((nw8 y).map (Value.int .u32)).toArray, .agg ((nw8 PVn).map (Value.int .u32)).toArray] w fun e w' => e = .returned (.agg ((nw8 (fs x y)).map (Value.int .u32)).toArray) ∧ Keeps w w' := by
  have := rsub_any ((PVn : Nat) : Int) x y rmod_pn.u ⟨by omega, by omega⟩ ⟨by omega, by omega⟩ w
  have e : (((x : Int) - (y : Int)) % ((PVn : Nat) : Int)) = ((fs x y : Nat) : Int) := by
    unfold fs
    rw [Int.natCast_emod, Nat.mod_eq_of_lt hy, Int.natCast_add, Int.natCast_sub (by omega), show (x : Int) + (((PVn : Nat) : Int) - (y : Int)) = (x : Int) - (y : Int) + ((PVn : Nat) : Int) by omega, Int.add_emod_right]
  rwa [e] at this
set_option maxRecDepth 10000 in
theorem rplus_any (a b : J) (h : a.ok) (h' : b.ok) (w : World) :
    Calls Try.prog 48 #[.agg ((ptR a).map (Value.int .u32)).toArray, .agg ((ptR b).map (Value.int .u32)).toArray] w fun e w' => e = .returned (.agg ((ptR (plusJ a b)).map (Value.int .u32)).toArray) ∧ Keeps w w' := by
  obtain ⟨c2, hc2⟩ : ∃ v, v = fm a.x b.x := ⟨_, rfl⟩
  have lc2 : c2 < PVn := by rw [hc2]; exact fm_lt _ _
  obtain ⟨c3, hc3⟩ : ∃ v, v = fm a.y b.y := ⟨_, rfl⟩
  have lc3 : c3 < PVn := by rw [hc3]; exact fm_lt _ _
  obtain ⟨c4, hc4⟩ : ∃ v, v = fm a.z b.z := ⟨_, rfl⟩
  have lc4 : c4 < PVn := by rw [hc4]; exact fm_lt _ _
  obtain ⟨c5, hc5⟩ : ∃ v, v = fa a.x a.y := ⟨_, rfl⟩
  have lc5 : c5 < PVn := by rw [hc5]; exact fa_lt _ _
  obtain ⟨c6, hc6⟩ : ∃ v, v = fa b.x b.y := ⟨_, rfl⟩
  have lc6 : c6 < PVn := by rw [hc6]; exact fa_lt _ _
  obtain ⟨c7, hc7⟩ : ∃ v, v = fm c5 c6 := ⟨_, rfl⟩
  have lc7 : c7 < PVn := by rw [hc7]; exact fm_lt _ _
  obtain ⟨c8, hc8⟩ : ∃ v, v = fa c2 c3 := ⟨_, rfl⟩
  have lc8 : c8 < PVn := by rw [hc8]; exact fa_lt _ _
  obtain ⟨c9, hc9⟩ : ∃ v, v = fs c7 c8 := ⟨_, rfl⟩
  have lc9 : c9 < PVn := by rw [hc9]; exact fs_lt _ _
  obtain ⟨c10, hc10⟩ : ∃ v, v = fa a.y a.z := ⟨_, rfl⟩
  have lc10 : c10 < PVn := by rw [hc10]; exact fa_lt _ _
  obtain ⟨c11, hc11⟩ : ∃ v, v = fa b.y b.z := ⟨_, rfl⟩
  have lc11 : c11 < PVn := by rw [hc11]; exact fa_lt _ _
  obtain ⟨c12, hc12⟩ : ∃ v, v = fm c10 c11 := ⟨_, rfl⟩
  have lc12 : c12 < PVn := by rw [hc12]; exact fm_lt _ _
  obtain ⟨c13, hc13⟩ : ∃ v, v = fa c3 c4 := ⟨_, rfl⟩
  have lc13 : c13 < PVn := by rw [hc13]; exact fa_lt _ _
  obtain ⟨c14, hc14⟩ : ∃ v, v = fs c12 c13 := ⟨_, rfl⟩
  have lc14 : c14 < PVn := by rw [hc14]; exact fs_lt _ _
  obtain ⟨c15, hc15⟩ : ∃ v, v = fa a.x a.z := ⟨_, rfl⟩
  have lc15 : c15 < PVn := by rw [hc15]; exact fa_lt _ _
  obtain ⟨c16, hc16⟩ : ∃ v, v = fa b.x b.z := ⟨_, rfl⟩
  have lc16 : c16 < PVn := by rw [hc16]; exact fa_lt _ _
  obtain ⟨c17, hc17⟩ : ∃ v, v = fm c15 c16 := ⟨_, rfl⟩
  have lc17 : c17 < PVn := by rw [hc17]; exact fm_lt _ _
  obtain ⟨c18, hc18⟩ : ∃ v, v = fa c2 c4 := ⟨_, rfl⟩
  have lc18 : c18 < PVn := by rw [hc18]; exact fa_lt _ _
  obtain ⟨c19, hc19⟩ : ∃ v, v = fs c17 c18 := ⟨_, rfl⟩
  have lc19 : c19 < PVn := by rw [hc19]; exact fs_lt _ _
  obtain ⟨c20, hc20⟩ : ∃ v, v = fa c2 c2 := ⟨_, rfl⟩
  have lc20 : c20 < PVn := by rw [hc20]; exact fa_lt _ _
  obtain ⟨c21, hc21⟩ : ∃ v, v = fa c20 c2 := ⟨_, rfl⟩
  have lc21 : c21 < PVn := by rw [hc21]; exact fa_lt _ _
  obtain ⟨c22, hc22⟩ : ∃ v, v = fm 21 c4 := ⟨_, rfl⟩
  have lc22 : c22 < PVn := by rw [hc22]; exact fm_lt _ _
  obtain ⟨c23, hc23⟩ : ∃ v, v = fa c3 c22 := ⟨_, rfl⟩
  have lc23 : c23 < PVn := by rw [hc23]; exact fa_lt _ _
  obtain ⟨c24, hc24⟩ : ∃ v, v = fs c3 c22 := ⟨_, rfl⟩
  have lc24 : c24 < PVn := by rw [hc24]; exact fs_lt _ _
  obtain ⟨c25, hc25⟩ : ∃ v, v = fm 21 c19 := ⟨_, rfl⟩
  have lc25 : c25 < PVn := by rw [hc25]; exact fm_lt _ _
  obtain ⟨c26, hc26⟩ : ∃ v, v = fm c9 c24 := ⟨_, rfl⟩
  have lc26 : c26 < PVn := by rw [hc26]; exact fm_lt _ _
  obtain ⟨c27, hc27⟩ : ∃ v, v = fm c14 c25 := ⟨_, rfl⟩
  have lc27 : c27 < PVn := by rw [hc27]; exact fm_lt _ _
  obtain ⟨c28, hc28⟩ : ∃ v, v = fs c26 c27 := ⟨_, rfl⟩
  have lc28 : c28 < PVn := by rw [hc28]; exact fs_lt _ _
  obtain ⟨c29, hc29⟩ : ∃ v, v = fm c24 c23 := ⟨_, rfl⟩
  have lc29 : c29 < PVn := by rw [hc29]; exact fm_lt _ _
  obtain ⟨c30, hc30⟩ : ∃ v, v = fm c25 c21 := ⟨_, rfl⟩
  have lc30 : c30 < PVn := by rw [hc30]; exact fm_lt _ _
  obtain ⟨c31, hc31⟩ : ∃ v, v = fa c29 c30 := ⟨_, rfl⟩
  have lc31 : c31 < PVn := by rw [hc31]; exact fa_lt _ _
  obtain ⟨c32, hc32⟩ : ∃ v, v = fm c23 c14 := ⟨_, rfl⟩
  have lc32 : c32 < PVn := by rw [hc32]; exact fm_lt _ _
  obtain ⟨c33, hc33⟩ : ∃ v, v = fm c21 c9 := ⟨_, rfl⟩
  have lc33 : c33 < PVn := by rw [hc33]; exact fm_lt _ _
  obtain ⟨c34, hc34⟩ : ∃ v, v = fa c32 c33 := ⟨_, rfl⟩
  have lc34 : c34 < PVn := by rw [hc34]; exact fa_lt _ _
  refine plus_walk _ _ _ _ _ _ (nw8 21) (nw8 PVn) (nw8 c2) (nw8 c3) (nw8 c4) (nw8 c5) (nw8 c6) (nw8 c7) (nw8 c8) (nw8 c9) (nw8 c10) (nw8 c11) (nw8 c12) (nw8 c13) (nw8 c14) (nw8 c15) (nw8 c16) (nw8 c17) (nw8 c18) (nw8 c19) (nw8 c20) (nw8 c21) (nw8 c22) (nw8 c23) (nw8 c24) (nw8 c25) (nw8 c26) (nw8 c27) (nw8 c28) (nw8 c29) (nw8 c30) (nw8 c31) (nw8 c32) (nw8 c33) (nw8 c34) (ptR a) (ptR b) (ptR (plusJ a b)) rfl rfl ?_ built_r21 lK21 (words8_length _) (words8_length _) (words8_length _) (words8_length _) (words8_length _) (words8_length _) (words8_length _) (words8_length _) (words8_length _) (words8_length _) (words8_length _) (words8_length _) (words8_length _) (words8_length _) (words8_length _) (words8_length _) (words8_length _) (words8_length _) (words8_length _) (words8_length _) (words8_length _) (words8_length _) (words8_length _) (words8_length _) (words8_length _) (words8_length _) (words8_length _) (words8_length _) (words8_length _) (words8_length _) (words8_length _) (words8_length _) (words8_length _) (words8_length _) (words8_length _) (words8_length _) (words8_length _) (words8_length _) (words8_length _) (words8_length _) w (fun W _ => rpn_any W) (fun W hk => by rw [hc2]; exact rpmul_any _ _ h.1 h'.1 W) (fun W hk => by rw [hc3]; exact rpmul_any _ _ h.2.1 h'.2.1 W) (fun W hk => by rw [hc4]; exact rpmul_any _ _ h.2.2 h'.2.2 W) (fun W hk => by rw [hc5]; exact rpadd_any _ _ h.1 h.2.1 W) (fun W hk => by rw [hc6]; exact rpadd_any _ _ h'.1 h'.2.1 W) (fun W hk => by rw [hc7]; exact rpmul_any _ _ lc5 lc6 W) (fun W hk => by rw [hc8]; exact rpadd_any _ _ lc2 lc3 W) (fun W hk => by rw [hc9]; exact rpsub_any _ _ lc7 lc8 W) (fun W hk => by rw [hc10]; exact rpadd_any _ _ h.2.1 h.2.2 W) (fun W hk => by rw [hc11]; exact rpadd_any _ _ h'.2.1 h'.2.2 W) (fun W hk => by rw [hc12]; exact rpmul_any _ _ lc10 lc11 W) (fun W hk => by rw [hc13]; exact rpadd_any _ _ lc3 lc4 W) (fun W hk => by rw [hc14]; exact rpsub_any _ _ lc12 lc13 W) (fun W hk => by rw [hc15]; exact rpadd_any _ _ h.1 h.2.2 W) (fun W hk => by rw [hc16]; exact rpadd_any _ _ h'.1 h'.2.2 W) (fun W hk => by rw [hc17]; exact rpmul_any _ _ lc15 lc16 W) (fun W hk => by rw [hc18]; exact rpadd_any _ _ lc2 lc4 W) (fun W hk => by rw [hc19]; exact rpsub_any _ _ lc17 lc18 W) (fun W hk => by rw [hc20]; exact rpadd_any _ _ lc2 lc2 W) (fun W hk => by rw [hc21]; exact rpadd_any _ _ lc20 lc2 W) (fun W hk => by rw [hc22]; exact rpmul_any _ _ (by decide : 21 < PVn) lc4 W) (fun W hk => by rw [hc23]; exact rpadd_any _ _ lc3 lc22 W) (fun W hk => by rw [hc24]; exact rpsub_any _ _ lc3 lc22 W) (fun W hk => by rw [hc25]; exact rpmul_any _ _ (by decide : 21 < PVn) lc19 W) (fun W hk => by rw [hc26]; exact rpmul_any _ _ lc9 lc24 W) (fun W hk => by rw [hc27]; exact rpmul_any _ _ lc14 lc25 W) (fun W hk => by rw [hc28]; exact rpsub_any _ _ lc26 lc27 W) (fun W hk => by rw [hc29]; exact rpmul_any _ _ lc24 lc23 W) (fun W hk => by rw [hc30]; exact rpmul_any _ _ lc25 lc21 W) (fun W hk => by rw [hc31]; exact rpadd_any _ _ lc29 lc30 W) (fun W hk => by rw [hc32]; exact rpmul_any _ _ lc23 lc14 W) (fun W hk => by rw [hc33]; exact rpmul_any _ _ lc21 lc9 W) (fun W hk => by rw [hc34]; exact rpadd_any _ _ lc32 lc33 W)
  subst hc34 hc33 hc32 hc31 hc30 hc29 hc28 hc27 hc26 hc25 hc24 hc23 hc22 hc21 hc20 hc19 hc18 hc17 hc16 hc15 hc14 hc13 hc12 hc11 hc10 hc9 hc8 hc7 hc6 hc5 hc4 hc3 hc2
  rfl
theorem built_rone : Try.prog.built 37 [(0, .int .u32 1)] = some ((nw8 1).map (Value.int .u32)).toArray := by kernel_rfl
set_option maxRecDepth 100000 in
set_option maxHeartbeats 1000000 in
theorem rzero_any (w : World) : Calls Try.prog 65 #[] w fun e w' => e = .returned (.agg ((ptR ⟨0, 1, 0⟩).map (Value.int .u32)).toArray) ∧ Keeps w w' := by
  have e0 : ptR ⟨0, 1, 0⟩ = ([0, 0, 0, 0, 0, 0, 0, 0, 1, 0, 0, 0, 0, 0, 0, 0, 0, 0, 0, 0, 0, 0, 0, 0] : List Int) := by simp [ptR, nw8, words8, List.range_succ]
  rw [e0]
  go_enter Try.func65, Try.ntmps65
  go_upto_region 1 with (fail)
  refine cu_rows1 (fun W hk hr hs => ?_)
  obtain ⟨Z, hZ, hrz⟩ : ∃ Z : List Value, Z.length = 24 ∧ Row W w.heap.size 0 Z := ⟨_, rfl, hr⟩
  have HR := Lib.hid hrz; have HK := Lib.hid hk
  clear hk hr hrz hs e0
  go_wp2_with (refine wpList_store_row rfl 39 (.tmp 0) (.tmp 4) rfl w.heap.size 0 rfl Z (([0, 0, 0, 0, 0, 0, 0, 0, 1, 0, 0, 0, 0, 0, 0, 0, 0, 0, 0, 0, 0, 0, 0, 0] : List Int).map (Value.int .u32)) rfl HR.out (by rw [hZ]; rfl) sz_rpt (int_oneCell _) ?_; intro w9 hr9 hc9; have H9 := Lib.hid hr9; have HC9 := Lib.hid hc9; clear hr9 hc9)
  exact bodyPost_ret (v := .agg (([0, 0, 0, 0, 0, 0, 0, 0, 1, 0, 0, 0, 0, 0, 0, 0, 0, 0, 0, 0, 0, 0, 0, 0] : List Int).map (Value.int .u32)).toArray) (results_cell_at (p := 0) (ty := 39) rfl _ _ w.heap.size 0 _ _ rfl H9.out Try.underlying39 rfl sz_rpt) rfl ⟨rfl, nm_keeps_chg HK.out HC9.out (Nat.le_refl _)⟩
def TMem (w wr : World) (p q : Nat) (X Y L : List Int) (Z : List Value) : Prop := Keeps w wr ∧ Row wr p 0 (X.map (Value.int .u32)) ∧ Row wr (p + 1) 0 (Y.map (Value.int .u32)) ∧ Row wr (p + 1 + 1) 0 Z ∧ Row wr q 0 (L.map (Value.int .u32)) ∧ p + 1 + 1 < q
theorem TMem.keeps {w wr w' : World} {p q : Nat} {X Y L : List Int} {Z : List Value} (h : TMem w wr p q X Y L Z) (hk : Keeps wr w') : TMem w w' p q X Y L Z :=
  ⟨h.1.trans hk, h.2.1.keeps hk, h.2.2.1.keeps hk, h.2.2.2.1.keeps hk, h.2.2.2.2.1.keeps hk, h.2.2.2.2.2⟩
theorem TMem.put {w wr w' : World} {p q : Nat} {X Y L L' : List Int} {Z : List Value} (h : TMem w wr p q X Y L Z) (hp : w.heap.size ≤ p) (hc : Chg (· = q) wr w') (hr : Row w' q 0 (L'.map (Value.int .u32))) : TMem w w' p q X Y L' Z :=
  have h6 := h.2.2.2.2.2
  ⟨nm_keeps_chg h.1 hc (by omega), h.2.1.chg hc (by omega), h.2.2.1.chg hc (by omega), h.2.2.2.1.chg hc (by omega), hr, h6⟩
set_option maxRecDepth 100000 in
set_option maxHeartbeats 8000000 in
theorem rtimes_walk (PA E : List Int) (T D F : Nat → List Int) (bt : Nat → Bool) (hPA : PA.length = 24) (hE : E.length = 8) (hTL : ∀ j, (T j).length = 24) (hDL : ∀ j, (D j).length = 24)
    (hS : ∀ i, i < 256 → (bt i = true ∧ T (256 - i) = F (256 - (i + 1))) ∨ (bt i = false ∧ T (256 - i) = D (256 - (i + 1)))) (w : World)
    (hB : ∀ (i : Nat) W, i < 256 → Calls Try.prog 66 #[.agg (E.map (Value.int .u32)).toArray, .int .i64 i] W fun e w' => e = .returned (.bool (bt i)) ∧ Keeps W w')
    (hZ : ∀ W, Calls Try.prog 65 #[] W fun e w' => e = .returned (.agg ((T 0).map (Value.int .u32)).toArray) ∧ Keeps W w')
    (hD : ∀ j W, Calls Try.prog 48 #[.agg ((T j).map (Value.int .u32)).toArray, .agg ((T j).map (Value.int .u32)).toArray] W fun e w' => e = .returned (.agg ((D j).map (Value.int .u32)).toArray) ∧ Keeps W w')
    (hF : ∀ j W, Calls Try.prog 48 #[.agg ((D j).map (Value.int .u32)).toArray, .agg (PA.map (Value.int .u32)).toArray] W fun e w' => e = .returned (.agg ((F j).map (Value.int .u32)).toArray) ∧ Keeps W w') :
    Calls Try.prog 35 #[.agg (E.map (Value.int .u32)).toArray, .agg (PA.map (Value.int .u32)).toArray] w fun e' w' => e' = .returned (.agg ((T 256).map (Value.int .u32)).toArray) ∧ Keeps w w' := by
  have HM := Lib.hid hD; have HMF := Lib.hid hF; have HB := Lib.hid hB; have HS := Lib.hid hS; have HE := Lib.hid hE; have HPA := Lib.hid hPA; have HZO := Lib.hid hZ
  have HTL := Lib.hid hTL; have HDL := Lib.hid hDL
  clear hD hF hB hS hE hPA hZ hTL hDL
  have hl0 := HTL.out 0
  go_enter Try.func35, Try.ntmps35
  go_upto_region 1 with (fail)
  refine wp_rows3 (fun W hk hra hrb hr2 hs => ?_)
  obtain ⟨p, hp⟩ : ∃ p, p = w.heap.size := ⟨_, rfl⟩
  rw [← hp] at hra hrb hr2 hs ⊢
  have hkp : w.heap.size ≤ p := by omega
  obtain ⟨Z, hZ, hrz⟩ : ∃ Z : List Value, Z.length = 24 ∧ Row W (p + 1 + 1) 0 Z := ⟨_, rfl, hr2⟩
  have hps : p + 1 + 1 < W.heap.size := by omega
  have HRA := Lib.hid (show Row W p 0 (E.map (Value.int .u32)) from hra); have HRB := Lib.hid (show Row W (p + 1) 0 (PA.map (Value.int .u32)) from hrb); have HRZ := Lib.hid hrz; have HK := Lib.hid hk
  clear hp hra hrb hr2 hrz hk hs
  go_upto_region 2 with (first | (go_at_call 65; refine (HZO.out _).mono ?_; rintro e W1 ⟨rfl, hk1⟩; have HK1 := Lib.hid hk1; clear hk1) | ((with_reducible refine gate_store 39 (.tmp 5) (.tmp 7) ?_); refine wpList_store_row rfl 39 (.tmp 5) (.tmp 7) rfl W1.heap.size 0 rfl ((List.replicate 24 0).map (Value.int .u32)) ((T 0).map (Value.int .u32)) rfl (Row.new _ _ _ rfl) (by rw [List.length_map, hl0]; rfl) (by rw [List.length_map, hl0]; exact sz_rpt) (int_oneCell _) ?_; intro W2 hr2 hc2; have HR2 := Lib.hid hr2; have HK2 := Lib.hid (nm_keeps_chg (nm_keeps_alloc HK1.out _) hc2 HK1.out.size); clear hr2 hc2))
  have HM0 := Lib.hid (show TMem w W2 p W1.heap.size E PA (T 0) Z from ⟨HK.out.trans HK2.out, HRA.out.keeps HK2.out, HRB.out.keeps HK2.out, HRZ.out.keeps HK2.out, HR2.out, Nat.lt_of_lt_of_le hps HK1.out.size⟩)
  generalize W1.heap.size = q at *
  clear HRA HRB HRZ HK HK1 HK2 HR2 hps
  have hq6 := HM0.out.2.2.2.2.2
  go_wp2
  go_loopw [6] (fun c wr => ∃ (k : Nat) (z : Int), k ≤ 256 ∧ c = .int .i64 z ∧ Hid (z = (k : Int) - 1) ∧ Hid (TMem w wr p q E PA (T (256 - k)) Z)) (fun c _ => (intOf c + 1).toNat)
  case atStart => exact ⟨256, 255, by omega, rfl, Lib.hid (by omega), HM0⟩
  case round =>
    obtain ⟨k, z, hk8, rfl, HZ, HMM⟩ := hrel
    have hkc : k = 0 ∨ ∃ i, k = i + 1 := by
      cases k with
      | zero => exact .inl rfl
      | succ i => exact .inr ⟨i, rfl⟩
    rcases hkc with rfl | ⟨i, rfl⟩
    · obtain rfl : z = -1 := by have := HZ.out; omega
      rw [Nat.sub_zero] at HMM
      have hl9 := HTL.out 256
      go_wp2_with (first | ((with_reducible refine gate_load 39 (.tmp 5) ?_); refine wpList_load_at rfl 39 (.tmp 5) rfl _ 0 rfl ((T 256).map (Value.int .u32)) _ HMM.out.2.2.2.2.1 Try.underlying39 rfl (by rw [List.length_map, hl9]; exact sz_rpt) ?_) | ((with_reducible refine gate_store 39 (.tmp 4) (.tmp 21) ?_); refine wpList_store_row rfl 39 (.tmp 4) (.tmp 21) rfl (p + 1 + 1) 0 rfl Z ((T 256).map (Value.int .u32)) rfl HMM.out.2.2.2.1 (by rw [List.length_map, hl9, hZ]) (by rw [List.length_map, hl9]; exact sz_rpt) (int_oneCell _) ?_; intro w9 hr9 hc9; have H9 := Lib.hid hr9; have HC9 := Lib.hid hc9; clear hr9 hc9))
      exact bodyPost_ret (v := .agg ((T 256).map (Value.int .u32)).toArray) (results_cell_at (p := 4) (ty := 39) rfl _ _ (p + 1 + 1) 0 _ _ rfl H9.out Try.underlying39 rfl (by rw [List.length_map, hl9]; exact sz_rpt)) rfl ⟨rfl, nm_keeps_chg HMM.out.1 HC9.out (by omega)⟩
    · obtain rfl : z = (i : Int) := by have := HZ.out; omega
      have hi : i < 256 := by omega
      have hst := HS.out i hi
      have HBT := Lib.hid (fun W => HB.out i W hi)
      have ht1 := HTL.out (256 - (i + 1))
      have ht2 := HTL.out (256 - i)
      have hsl := HDL.out (256 - (i + 1))
      have HM1 := Lib.hid (HM.out (256 - (i + 1)))
      have HM2 := Lib.hid (HMF.out (256 - (i + 1)))
      generalize bt i = bb at *
      generalize T (256 - (i + 1)) = TA at *
      generalize D (256 - (i + 1)) = SQ at *
      generalize F (256 - (i + 1)) = FF at *
      generalize hTB : T (256 - i) = TB at *
      have HTB := Lib.hid hTB
      clear hTB
      rcases hst with ⟨rfl, rfl⟩ | ⟨rfl, rfl⟩
      · go_upto_region 6 with (first | ((with_reducible refine gate_load 39 (.tmp 5) ?_); refine wpList_load_at rfl 39 (.tmp 5) rfl _ 0 rfl (TA.map (Value.int .u32)) _ HMM.out.2.2.2.2.1 Try.underlying39 rfl (by rw [List.length_map, ht1]; exact sz_rpt) ?_) | (go_at_call 48; refine (HM1.out _).mono ?_; rintro e W2 ⟨rfl, hk2⟩; have HK2 := Lib.hid (HMM.out.keeps hk2); clear hk2) | ((with_reducible refine gate_store 39 (.tmp 5) (.tmp 14) ?_); refine wpList_store_row rfl 39 (.tmp 5) (.tmp 14) rfl q 0 rfl (TA.map (Value.int .u32)) (SQ.map (Value.int .u32)) rfl HK2.out.2.2.2.2.1 (by rw [List.length_map, List.length_map, ht1, hsl]) (by rw [List.length_map, hsl]; exact sz_rpt) (int_oneCell _) ?_; intro W3 hr9 hc9; have HK3 := Lib.hid (HK2.out.put hkp hc9 hr9); clear hr9 hc9))
        go_upto_region 7 with (first | ((with_reducible refine gate_load 37 (.tmp 2) ?_); refine wpList_load_at rfl 37 (.tmp 2) rfl _ 0 rfl (E.map (Value.int .u32)) _ HK3.out.2.1 Try.underlying37 rfl (by rw [List.length_map, HE.out]; exact sz_rnum) ?_) | (go_at_call 66; refine (HBT.out _).mono ?_; rintro e W4 ⟨rfl, hk2⟩; have HK4 := Lib.hid (HK3.out.keeps hk2); clear hk2))
        go_wp2_with (first | ((with_reducible refine gate_load 39 (.tmp 5) ?_); refine wpList_load_at rfl 39 (.tmp 5) rfl _ 0 rfl (SQ.map (Value.int .u32)) _ HK4.out.2.2.2.2.1 Try.underlying39 rfl (by rw [List.length_map, hsl]; exact sz_rpt) ?_) | ((with_reducible refine gate_load 39 (.tmp 3) ?_); refine wpList_load_at rfl 39 (.tmp 3) rfl _ 0 rfl (PA.map (Value.int .u32)) _ HK4.out.2.2.1 Try.underlying39 rfl (by rw [List.length_map, HPA.out]; exact sz_rpt) ?_) | (go_at_call 48; refine (HM2.out _).mono ?_; rintro e W5 ⟨rfl, hk2⟩; have HK5 := Lib.hid (HK4.out.keeps hk2); clear hk2) | ((with_reducible refine gate_store 39 (.tmp 5) (.tmp 20) ?_); refine wpList_store_row rfl 39 (.tmp 5) (.tmp 20) rfl q 0 rfl (SQ.map (Value.int .u32)) (TB.map (Value.int .u32)) rfl HK5.out.2.2.2.2.1 (by rw [List.length_map, List.length_map, ht2, hsl]) (by rw [List.length_map, ht2]; exact sz_rpt) (int_oneCell _) ?_; intro W6 hr9 hc9; have HK6 := Lib.hid (HK5.out.put hkp hc9 hr9); clear hr9 hc9))
        go_roundw
        case rel => exact ⟨i, (i : Int) - 1, by omega, by first | rfl | go_num, Lib.hid rfl, by rw [HTB.out]; exact HK6⟩
        case measure => simp [intOf] <;> omega
      · go_upto_region 6 with (first | ((with_reducible refine gate_load 39 (.tmp 5) ?_); refine wpList_load_at rfl 39 (.tmp 5) rfl _ 0 rfl (TA.map (Value.int .u32)) _ HMM.out.2.2.2.2.1 Try.underlying39 rfl (by rw [List.length_map, ht1]; exact sz_rpt) ?_) | (go_at_call 48; refine (HM1.out _).mono ?_; rintro e W2 ⟨rfl, hk2⟩; have HK2 := Lib.hid (HMM.out.keeps hk2); clear hk2) | ((with_reducible refine gate_store 39 (.tmp 5) (.tmp 14) ?_); refine wpList_store_row rfl 39 (.tmp 5) (.tmp 14) rfl q 0 rfl (TA.map (Value.int .u32)) (TB.map (Value.int .u32)) rfl HK2.out.2.2.2.2.1 (by rw [List.length_map, List.length_map, ht1, ht2]) (by rw [List.length_map, ht2]; exact sz_rpt) (int_oneCell _) ?_; intro W3 hr9 hc9; have HK3 := Lib.hid (HK2.out.put hkp hc9 hr9); clear hr9 hc9))
        go_wp2_with (first | ((with_reducible refine gate_load 37 (.tmp 2) ?_); refine wpList_load_at rfl 37 (.tmp 2) rfl _ 0 rfl (E.map (Value.int .u32)) _ HK3.out.2.1 Try.underlying37 rfl (by rw [List.length_map, HE.out]; exact sz_rnum) ?_) | (go_at_call 66; refine (HBT.out _).mono ?_; rintro e W4 ⟨rfl, hk2⟩; have HK4 := Lib.hid (HK3.out.keeps hk2); clear hk2))
        go_roundw
        case rel => exact ⟨i, (i : Int) - 1, by omega, by first | rfl | go_num, Lib.hid rfl, by rw [HTB.out]; exact HK4⟩
        case measure => simp [intOf] <;> omega
theorem timesR_ok' (k : Nat) (a : J) (j : Nat) : (timesR k a j).ok := timesR_ok k j
theorem rtimes_any (k : Nat) (a : J) (hk : k < 2 ^ 256) (h : a.ok) (w : World) :
    Calls Try.prog 35 #[.agg ((nw8 k).map (Value.int .u32)).toArray, .agg ((ptR a).map (Value.int .u32)).toArray] w fun e w' => e = .returned (.agg ((ptR (timesR k a 256)).map (Value.int .u32)).toArray) ∧ Keeps w w' := by
  refine rtimes_walk (ptR a) (nw8 k) (fun j => ptR (timesR k a j)) (fun j => ptR (plusJ (timesR k a j) (timesR k a j))) (fun j => ptR (plusJ (plusJ (timesR k a j) (timesR k a j)) a)) (fun i => decide ((nw8 k).getD (i / 32) 0 / 2 ^ (i % 32) % 2 = 1)) (ptR_len _) (nw8_len _) (fun j => ptR_len _) (fun j => ptR_len _) (fun i hi => ?_) w
    (fun i W hi => rbit_any _ (nw8_len _) (words8_range _) i hi W) (fun W => rzero_any W) (fun j W => rplus_any _ _ (timesR_ok' k a j) (timesR_ok' k a j) W) (fun j W => rplus_any _ _ (plusJ_ok _ _) h W)
  have e1 : 256 - i = 256 - (i + 1) + 1 := by omega
  have e2 : 255 - (256 - (i + 1)) = i := by omega
  have hst : timesR k a (256 - i) = if k / 2 ^ i % 2 = 1 then plusJ (plusJ (timesR k a (256 - (i + 1))) (timesR k a (256 - (i + 1)))) a else plusJ (timesR k a (256 - (i + 1))) (timesR k a (256 - (i + 1))) := by
    conv => lhs; rw [e1, timesR, e2]
  unfold nw8
  rw [words8_bit k i hi]
  rcases Nat.mod_two_eq_zero_or_one (k / 2 ^ i) with h | h
  · refine .inr ⟨by rw [h]; rfl, ?_⟩
    rw [hst, h, if_neg (by decide)]
  · refine .inl ⟨by rw [h]; rfl, ?_⟩
    rw [hst, h, if_pos rfl]
end Go.Proofs.Ytajipagpdphejaa
