/- curve's group on numbers: infinite, double, add. No condition. | The reference's Plus, Zero and Times on numbers. No condition. | The reference's Times. No condition. -/
import Derived.Test.YtlofddoojkeakaaDoorGC0
import Derived.Test.YtlofddoojkeakaaDoorGB8
import Derived.Test.YtlofddoojkeakaaDoorGB2
namespace Go.Proofs.YtlofddoojkeakaaDoor
set_option linter.unusedVariables false
set_option linter.unusedSimpArgs false
open Go Go.RowKit Cv

def nw (x : Nat) : List Int := words (x : Int)
def ptW (a : J) : List Int := nw a.x ++ nw a.y ++ nw a.z
theorem ptW_len (a : J) : (ptW a).length = 12 := rfl
theorem pv_eq : PV = ((PVn : Nat) : Int) := by decide
theorem nat_u256 {x : Nat} (h : x < PVn) : U256 (x : Int) := u256_nat (Nat.lt_trans h (by decide))
theorem gc_p {w : World} {g : Nat} (h : Row w g 0 gCells) : Row w g 0 (pCells.map (Value.int .u64)) := h.take 7
theorem fld_pn : Fld ((PVn : Nat) : Int) pCells := by rw [← pv_eq]; exact fld_p
theorem nv_eq : NV = ((nVn : Nat) : Int) := by decide
theorem pmul_any (g : Nat) (x y : Nat) (hx : x < PVn) (hy : y < PVn) (w : World) (hr : Row w g 0 gCells) :
    Calls Tryd.prog 67 #[.pointer (some ⟨g, 0, none⟩), .agg ((nw x).map (Value.int .u64)).toArray, .agg ((nw y).map (Value.int .u64)).toArray] w fun e w' => e = .returned (.agg ((nw (fm x y)).map (Value.int .u64)).toArray) ∧ Keeps w w' := by
  have := mul_any g 0 _ _ fld_pn x y (nat_u256 hx) (nat_u256 hy) w (gc_p hr)
  have e : ((x : Int) * (y : Int) % ((PVn : Nat) : Int)) = ((fm x y : Nat) : Int) := by unfold fm; rw [Int.natCast_emod, Int.natCast_mul]
  rwa [e] at this
theorem padd_any (g : Nat) (x y : Nat) (hx : x < PVn) (hy : y < PVn) (w : World) (hr : Row w g 0 gCells) :
    Calls Tryd.prog 37 #[.pointer (some ⟨g, 0, none⟩), .agg ((nw x).map (Value.int .u64)).toArray, .agg ((nw y).map (Value.int .u64)).toArray] w fun e w' => e = .returned (.agg ((nw (fa x y)).map (Value.int .u64)).toArray) ∧ Keeps w w' := by
  have := add_any g 0 ((PVn : Nat) : Int) x y fld_pn.mU ⟨by omega, by omega⟩ ⟨by omega, by omega⟩ w (by rw [← pv_eq]; exact gCells_p hr)
  have e : (((x : Int) + (y : Int)) % ((PVn : Nat) : Int)) = ((fa x y : Nat) : Int) := by unfold fa; rw [Int.natCast_emod, Int.natCast_add]
  rwa [e] at this
theorem psub_any (g : Nat) (x y : Nat) (hx : x < PVn) (hy : y < PVn) (w : World) (hr : Row w g 0 gCells) :
    Calls Tryd.prog 68 #[.pointer (some ⟨g, 0, none⟩), .agg ((nw x).map (Value.int .u64)).toArray, .agg ((nw y).map (Value.int .u64)).toArray] w fun e w' => e = .returned (.agg ((nw (fs x y)).map (Value.int .u64)).toArray) ∧ Keeps w w' := by
  have := sub_any g 0 ((PVn : Nat) : Int) x y fld_pn.mU ⟨by omega, by omega⟩ ⟨by omega, by omega⟩ w (by rw [← pv_eq]; exact gCells_p hr)
  have e : (((x : Int) - (y : Int)) % ((PVn : Nat) : Int)) = ((fs x y : Nat) : Int) := by
    unfold fs
    rw [Int.natCast_emod, Nat.mod_eq_of_lt hy, Int.natCast_add, Int.natCast_sub (by omega), show (x : Int) + (((PVn : Nat) : Int) - (y : Int)) = (x : Int) - (y : Int) + ((PVn : Nat) : Int) by omega, Int.add_emod_right]
  rwa [e] at this
set_option maxRecDepth 100000 in
theorem inf_walk (g : Nat) (Z : List Int) (lZ : Z.length = 4) (d : Bool) (w : World) (hZ : Row w g 8 (Z.map (Value.int .u64))) (hz : ∀ W, Calls Tryd.prog 38 #[.agg (Z.map (Value.int .u64)).toArray] W fun e w' => e = .returned (.bool d) ∧ Keeps W w') :
    Calls Tryd.prog 43 #[.pointer (some ⟨g, 0, none⟩)] w fun e w' => e = .returned (.bool d) ∧ Keeps w w' := by
  have HZ := Lib.hid hZ; have HZR := Lib.hid hz; clear hZ hz
  go_enter Tryd.func43, Tryd.ntmps43
  go_wp2_with (first | (refine wpList_load_at rfl 70 (.tmp 5) rfl g 8 rfl (Z.map (Value.int .u64)) _ HZ.out Tryd.underlying70 rfl (by rw [List.length_map, lZ]; exact sz_cnum) ?_) | (go_at_call 38; refine (HZR.out _).mono ?_; rintro e V1 ⟨rfl, hk1⟩; have HV1 := Lib.hid hk1; clear hk1))
  go_ret
  exact ⟨rfl, HV1.out⟩
theorem infinite_at (g : Nat) (a : J) (w : World) (h : a.z < PVn) (hr : Row w g 0 ((ptW a).map (Value.int .u64))) : Calls Tryd.prog 43 #[.pointer (some ⟨g, 0, none⟩)] w fun e w' => e = .returned (.bool (decide (a.z = 0))) ∧ Keeps w w' := by
  have := inf_walk g (nw a.z) rfl (decide (((a.z : Nat) : Int) = 0)) w (row3 (X := nw a.x) (Y := nw a.y) (Z := nw a.z) rfl rfl rfl hr).2.2 (fun W => czero_any _ (nat_u256 h) W)
  have e : decide (((a.z : Nat) : Int) = 0) = decide (a.z = 0) := by
    by_cases h0 : a.z = 0
    · rw [h0]; rfl
    · rw [decide_eq_false h0, decide_eq_false (by omega)]
  rwa [e] at this
theorem infinite_any (g : Nat) (a : J) (w : World) (h : a.z < PVn) (hz : ¬ a.z = 0) (hr : Row w g 0 ((ptW a).map (Value.int .u64))) : Calls Tryd.prog 43 #[.pointer (some ⟨g, 0, none⟩)] w fun e w' => e = .returned (.bool false) ∧ Keeps w w' := by
  have := infinite_at g a w h hr
  rwa [decide_eq_false hz] at this
theorem infinite_yes (g : Nat) (a : J) (w : World) (h : a.z < PVn) (hz : a.z = 0) (hr : Row w g 0 ((ptW a).map (Value.int .u64))) : Calls Tryd.prog 43 #[.pointer (some ⟨g, 0, none⟩)] w fun e w' => e = .returned (.bool true) ∧ Keeps w w' := by
  have := infinite_at g a w h hr
  rwa [decide_eq_true hz] at this
set_option maxRecDepth 100000 in
set_option maxHeartbeats 1000000 in
theorem dblinf_walk (gv : Value) (gg : Nat) (hgv : gv = .pointer (some ⟨gg, 0, none⟩)) (PT : List Int) (lPT : PT.length = 12) (w : World)
    (hinf : ∀ g W, Row W g 0 (PT.map (Value.int .u64)) → Calls Tryd.prog 43 #[.pointer (some ⟨g, 0, none⟩)] W fun e w' => e = .returned (.bool true) ∧ Keeps W w') :
    Calls Tryd.prog 69 #[gv, .agg (PT.map (Value.int .u64)).toArray] w fun e w' => e = .returned (.agg (PT.map (Value.int .u64)).toArray) ∧ Keeps w w' := by
  subst hgv
  have HINF := Lib.hid hinf; clear hinf
  go_enter Tryd.func69, Tryd.ntmps69
  go_upto_region 1 with (fail)
  refine cu_rows2 (fun W hk hra hrb hs => ?_)
  obtain ⟨p, hp⟩ : ∃ p, p = w.heap.size := ⟨_, rfl⟩
  rw [← hp] at hra hrb hs ⊢
  have hkp : w.heap.size ≤ p := by omega
  obtain ⟨Zr, hZr, hrz⟩ : ∃ Zr : List Value, Zr.length = 12 ∧ Row W (p + 1) 0 Zr := ⟨_, rfl, hrb⟩
  have HRA := Lib.hid (show Row W p 0 (PT.map (Value.int .u64)) from hra)
  have HKW := Lib.hid hk; have HRres := Lib.hid hrz
  clear hp hra hrb hrz hk hs
  go_wp2_with (first | (go_at_call 43; refine (HINF.out p _ HRA.out).mono ?_; rintro e V1 ⟨rfl, hk1⟩; have HV1 := Lib.hid hk1; clear hk1) | (refine wpList_load_at rfl 76 (.tmp 3) rfl _ 0 rfl (PT.map (Value.int .u64)) _ (HRA.out.keeps HV1.out) Tryd.underlying76 rfl (by rw [List.length_map, lPT]; exact sz_cpt) ?_) | (refine wpList_store_row rfl 76 (.tmp 4) (.tmp 17) rfl _ 0 rfl Zr (PT.map (Value.int .u64)) rfl (HRres.out.keeps HV1.out) (by rw [List.length_map, lPT, hZr]) (by rw [List.length_map, lPT]; exact sz_cpt) (int_oneCell _) ?_; intro W2 hr2 hc2; have HN := Lib.hid hr2; have HC := Lib.hid hc2; clear hr2 hc2))
  exact bodyPost_ret (results_cell_at (p := 4) (ty := 76) rfl _ _ (p + 1) 0 _ _ rfl HN.out Tryd.underlying76 rfl (by rw [List.length_map, lPT]; exact sz_cpt)) rfl ⟨rfl, nm_keeps_chg (HKW.out.trans HV1.out) HC.out (by omega)⟩
set_option maxRecDepth 10000 in
theorem dbl_any (g : Nat) (a : J) (h : a.ok) (w : World) (hr : Row w g 0 gCells) :
    Calls Tryd.prog 69 #[.pointer (some ⟨g, 0, none⟩), .agg ((ptW a).map (Value.int .u64)).toArray] w fun e w' => e = .returned (.agg ((ptW (dblJ a)).map (Value.int .u64)).toArray) ∧ Keeps w w' := by
  by_cases hz : a.z = 0
  · have e : dblJ a = a := by unfold dblJ; rw [if_pos hz]
    rw [e]
    exact dblinf_walk _ g rfl (ptW a) (ptW_len a) w (fun g' W hW => infinite_yes g' a W h.2.2 hz hW)
  · skip
    obtain ⟨c1, hc1⟩ : ∃ v, v = fm a.y a.y := ⟨_, rfl⟩
    have lc1 : c1 < PVn := by rw [hc1]; exact fm_lt _ _
    obtain ⟨c2, hc2⟩ : ∃ v, v = fm a.x c1 := ⟨_, rfl⟩
    have lc2 : c2 < PVn := by rw [hc2]; exact fm_lt _ _
    obtain ⟨c3, hc3⟩ : ∃ v, v = fa c2 c2 := ⟨_, rfl⟩
    have lc3 : c3 < PVn := by rw [hc3]; exact fa_lt _ _
    obtain ⟨c4, hc4⟩ : ∃ v, v = fa c2 c2 := ⟨_, rfl⟩
    have lc4 : c4 < PVn := by rw [hc4]; exact fa_lt _ _
    obtain ⟨c5, hc5⟩ : ∃ v, v = fa c3 c4 := ⟨_, rfl⟩
    have lc5 : c5 < PVn := by rw [hc5]; exact fa_lt _ _
    obtain ⟨c6, hc6⟩ : ∃ v, v = fm a.x a.x := ⟨_, rfl⟩
    have lc6 : c6 < PVn := by rw [hc6]; exact fm_lt _ _
    obtain ⟨c7, hc7⟩ : ∃ v, v = fa c6 c6 := ⟨_, rfl⟩
    have lc7 : c7 < PVn := by rw [hc7]; exact fa_lt _ _
    obtain ⟨c8, hc8⟩ : ∃ v, v = fa c7 c6 := ⟨_, rfl⟩
    have lc8 : c8 < PVn := by rw [hc8]; exact fa_lt _ _
    obtain ⟨c9, hc9⟩ : ∃ v, v = fm c8 c8 := ⟨_, rfl⟩
    have lc9 : c9 < PVn := by rw [hc9]; exact fm_lt _ _
    obtain ⟨c10, hc10⟩ : ∃ v, v = fa c5 c5 := ⟨_, rfl⟩
    have lc10 : c10 < PVn := by rw [hc10]; exact fa_lt _ _
    obtain ⟨c11, hc11⟩ : ∃ v, v = fs c9 c10 := ⟨_, rfl⟩
    have lc11 : c11 < PVn := by rw [hc11]; exact fs_lt _ _
    obtain ⟨c12, hc12⟩ : ∃ v, v = fm c1 c1 := ⟨_, rfl⟩
    have lc12 : c12 < PVn := by rw [hc12]; exact fm_lt _ _
    obtain ⟨c13, hc13⟩ : ∃ v, v = fa c12 c12 := ⟨_, rfl⟩
    have lc13 : c13 < PVn := by rw [hc13]; exact fa_lt _ _
    obtain ⟨c14, hc14⟩ : ∃ v, v = fa c12 c12 := ⟨_, rfl⟩
    have lc14 : c14 < PVn := by rw [hc14]; exact fa_lt _ _
    obtain ⟨c15, hc15⟩ : ∃ v, v = fa c13 c14 := ⟨_, rfl⟩
    have lc15 : c15 < PVn := by rw [hc15]; exact fa_lt _ _
    obtain ⟨c16, hc16⟩ : ∃ v, v = fm a.y a.z := ⟨_, rfl⟩
    have lc16 : c16 < PVn := by rw [hc16]; exact fm_lt _ _
    obtain ⟨c17, hc17⟩ : ∃ v, v = fs c5 c11 := ⟨_, rfl⟩
    have lc17 : c17 < PVn := by rw [hc17]; exact fs_lt _ _
    obtain ⟨c18, hc18⟩ : ∃ v, v = fm c8 c17 := ⟨_, rfl⟩
    have lc18 : c18 < PVn := by rw [hc18]; exact fm_lt _ _
    obtain ⟨c19, hc19⟩ : ∃ v, v = fa c15 c15 := ⟨_, rfl⟩
    have lc19 : c19 < PVn := by rw [hc19]; exact fa_lt _ _
    obtain ⟨c20, hc20⟩ : ∃ v, v = fs c18 c19 := ⟨_, rfl⟩
    have lc20 : c20 < PVn := by rw [hc20]; exact fs_lt _ _
    obtain ⟨c21, hc21⟩ : ∃ v, v = fa c16 c16 := ⟨_, rfl⟩
    have lc21 : c21 < PVn := by rw [hc21]; exact fa_lt _ _
    refine dbl_walk g _ _ _ (nw c1) (nw c2) (nw c3) (nw c4) (nw c5) (nw c6) (nw c7) (nw c8) (nw c9) (nw c10) (nw c11) (nw c12) (nw c13) (nw c14) (nw c15) (nw c16) (nw c17) (nw c18) (nw c19) (nw c20) (nw c21) (ptW a) (ptW (dblJ a)) rfl ?_ (words_length _) (words_length _) (words_length _) (words_length _) (words_length _) (words_length _) (words_length _) (words_length _) (words_length _) (words_length _) (words_length _) (words_length _) (words_length _) (words_length _) (words_length _) (words_length _) (words_length _) (words_length _) (words_length _) (words_length _) (words_length _) (words_length _) (words_length _) (words_length _) w (fun g' W hW => infinite_any g' a W (h.2.2) hz hW) (fun W hk => by rw [hc1]; exact pmul_any g _ _ h.2.1 h.2.1 W (hr.keeps hk)) (fun W hk => by rw [hc2]; exact pmul_any g _ _ h.1 lc1 W (hr.keeps hk)) (fun W hk => by rw [hc3]; exact padd_any g _ _ lc2 lc2 W (hr.keeps hk)) (fun W hk => by rw [hc4]; exact padd_any g _ _ lc2 lc2 W (hr.keeps hk)) (fun W hk => by rw [hc5]; exact padd_any g _ _ lc3 lc4 W (hr.keeps hk)) (fun W hk => by rw [hc6]; exact pmul_any g _ _ h.1 h.1 W (hr.keeps hk)) (fun W hk => by rw [hc7]; exact padd_any g _ _ lc6 lc6 W (hr.keeps hk)) (fun W hk => by rw [hc8]; exact padd_any g _ _ lc7 lc6 W (hr.keeps hk)) (fun W hk => by rw [hc9]; exact pmul_any g _ _ lc8 lc8 W (hr.keeps hk)) (fun W hk => by rw [hc10]; exact padd_any g _ _ lc5 lc5 W (hr.keeps hk)) (fun W hk => by rw [hc11]; exact psub_any g _ _ lc9 lc10 W (hr.keeps hk)) (fun W hk => by rw [hc12]; exact pmul_any g _ _ lc1 lc1 W (hr.keeps hk)) (fun W hk => by rw [hc13]; exact padd_any g _ _ lc12 lc12 W (hr.keeps hk)) (fun W hk => by rw [hc14]; exact padd_any g _ _ lc12 lc12 W (hr.keeps hk)) (fun W hk => by rw [hc15]; exact padd_any g _ _ lc13 lc14 W (hr.keeps hk)) (fun W hk => by rw [hc16]; exact pmul_any g _ _ h.2.1 h.2.2 W (hr.keeps hk)) (fun W hk => by rw [hc17]; exact psub_any g _ _ lc5 lc11 W (hr.keeps hk)) (fun W hk => by rw [hc18]; exact pmul_any g _ _ lc8 lc17 W (hr.keeps hk)) (fun W hk => by rw [hc19]; exact padd_any g _ _ lc15 lc15 W (hr.keeps hk)) (fun W hk => by rw [hc20]; exact psub_any g _ _ lc18 lc19 W (hr.keeps hk)) (fun W hk => by rw [hc21]; exact padd_any g _ _ lc16 lc16 W (hr.keeps hk))
    subst hc21 hc20 hc19 hc18 hc17 hc16 hc15 hc14 hc13 hc12 hc11 hc10 hc9 hc8 hc7 hc6 hc5 hc4 hc3 hc2 hc1
    unfold dblJ
    rw [if_neg hz]
    rfl
def TMem (w wr : World) (p q : Nat) (X Y L : List Int) (Z : List Value) : Prop := Keeps w wr ∧ Row wr p 0 (X.map (Value.int .u32)) ∧ Row wr (p + 1) 0 (Y.map (Value.int .u32)) ∧ Row wr (p + 1 + 1) 0 Z ∧ Row wr q 0 (L.map (Value.int .u32)) ∧ p + 1 + 1 < q
theorem TMem.keeps {w wr w' : World} {p q : Nat} {X Y L : List Int} {Z : List Value} (h : TMem w wr p q X Y L Z) (hk : Keeps wr w') : TMem w w' p q X Y L Z :=
  ⟨h.1.trans hk, h.2.1.keeps hk, h.2.2.1.keeps hk, h.2.2.2.1.keeps hk, h.2.2.2.2.1.keeps hk, h.2.2.2.2.2⟩
theorem TMem.put {w wr w' : World} {p q : Nat} {X Y L L' : List Int} {Z : List Value} (h : TMem w wr p q X Y L Z) (hp : w.heap.size ≤ p) (hc : Chg (· = q) wr w') (hr : Row w' q 0 (L'.map (Value.int .u32))) : TMem w w' p q X Y L' Z :=
  have h6 := h.2.2.2.2.2
  ⟨nm_keeps_chg h.1 hc (by omega), h.2.1.chg hc (by omega), h.2.2.1.chg hc (by omega), h.2.2.2.1.chg hc (by omega), hr, h6⟩
end Go.Proofs.YtlofddoojkeakaaDoor
