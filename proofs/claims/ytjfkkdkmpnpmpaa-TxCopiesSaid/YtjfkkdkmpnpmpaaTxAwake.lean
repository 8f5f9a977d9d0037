/- strongboxlaw09.awake: yes. strongboxlaw09.few. -/
import Derived.Test.YtjfkkdkmpnpmpaaTxWeigh
import Derived.Test.YtjfkkdkmpnpmpaaTxChkR
import Derived.Test.YtjfkkdkmpnpmpaaTxFew
namespace Go.Proofs.Ytjfkkdkmpnpmpaa
set_option linter.unusedVariables false
set_option linter.unusedSimpArgs false
open Go Go.RowKit

def NoB : Nat → Prop := fun _ => False
def in0 : InD := ⟨zero32, 4294967295, [], 0, []⟩
def tx0 : TxD := ⟨1, [in0], [⟨5, []⟩], 0⟩
theorem rd_none (W : World) (sz : Nat) : Rd W sz (.slice none 0 0) 0 [] := ⟨by simp, none, 0, rfl, Nat.le_refl _, Nat.zero_le _, fun _ => ⟨rfl, rfl⟩, fun ad e _ => (by cases e)⟩
theorem rb_none (S : Nat → Prop) (W : World) : RB S W (.slice none 0 0) [] := ⟨rd_none W 1, fun x hx => (by cases hx), by simp, fun g h => by simp [Value.ownBlock] at h⟩
theorem rll_none (S T : Nat → Prop) (W : World) : RLL S T W (.slice none 0 0) [] := ⟨[], rd_none W 1, fun i u l hu hl => (by simp at hu), by simp, fun g h => by simp [Value.ownBlock] at h⟩
theorem rd_row {W : World} {g sz : Nat} {cs : List Value} (h : Row W g 0 cs) (hl : cs.length = sz) (hg : g < W.heap.size) : Rd W sz (.slice (some ⟨g, 0, none⟩) 1 1) 1 cs :=
  ⟨by rw [hl, Nat.one_mul], some ⟨g, 0, none⟩, 1, rfl, Nat.le_refl _, by unfold maxLen; omega, fun e => (by cases e), fun ad e _ => by cases e; exact ⟨g, 0, rfl, hg, h⟩⟩
def in0C : List Value := emptyCells ++ [.slice none 0 0, .int .u32 0, .slice none 0 0]
theorem in0C_eq : in0C = inCells in0 (.slice none 0 0) (.slice none 0 0) := by
  unfold in0C inCells
  rw [emptyCells_pt]
  show ptCells zero32 4294967295 ++ _ = zero32.map (Value.int .u8) ++ _
  unfold ptCells
  rw [List.append_assoc]
  rfl
theorem in0_ok : in0.Ok := ⟨rfl, zero32_bytes, ⟨by decide, by decide⟩, ⟨by decide, by decide⟩⟩
theorem tx0_rtx {W : World} {p q : Nat} (h1 : Row W p 0 in0C) (h2 : Row W q 0 [.int .i64 5, .slice none 0 0]) (hp : p < W.heap.size) (hq : q < W.heap.size) :
    RTx NoB NoB AnyB W (.slice (some ⟨p, 0, none⟩) 1 1) (.slice (some ⟨q, 0, none⟩) 1 1) tx0 := by
  refine ⟨⟨by decide, by decide⟩, ⟨by decide, by decide⟩, ⟨in0C, [(.slice none 0 0, .slice none 0 0)], rd_row h1 rfl hp, rfl, fun i pp d hp' hd => ?_, by decide, fun g _ => trivial⟩, ⟨[.int .i64 5, .slice none 0 0], [.slice none 0 0], rd_row h2 rfl hq, rfl, fun i pp d hp' hd => ?_, by decide, fun g _ => trivial⟩⟩
  · have hi : i = 0 := by have := (List.getElem?_eq_some_iff.1 hp').1; simp at this; exact this
    subst hi
    simp only [tx0, List.getElem?_cons_zero, Option.some.injEq] at hp' hd
    subst hp' hd
    refine ⟨⟨in0_ok, rb_none _ _, rll_none _ _ _⟩, ?_⟩
    rw [← in0C_eq]
    rfl
  · have hi : i = 0 := by have := (List.getElem?_eq_some_iff.1 hp').1; simp at this; exact this
    subst hi
    simp only [tx0, List.getElem?_cons_zero, Option.some.injEq] at hp' hd
    subst hp' hd
    exact ⟨rb_none _ _, ⟨by decide, by decide⟩, rfl⟩
theorem tx0_fits : Fits tx0 := by unfold Fits; decide +kernel
theorem tx0_len (b : Bool) : (encB tx0 b).length = 60 := by cases b <;> decide +kernel
theorem tx0_cb : cbD tx0 = true := by decide +kernel
theorem tx0_chk (r : Int) (h : Chk tx0 r) : r = 3 := by
  unfold Chk at h
  have h1 := h.2 (by decide)
  have h2 := h1.2 (by rw [tx0_len]; decide)
  have h3 := h2.2 (by decide +kernel)
  have h4 := h3.2 (by
    rintro ⟨i, k, a, b, hk, hi, _⟩
    have := (List.getElem?_eq_some_iff.1 hi).1
    simp [tx0] at this; omega)
  exact (h4.1 tx0_cb).1 ⟨in0, rfl, .inl (by decide)⟩
set_option maxRecDepth 100000 in
set_option maxHeartbeats 2000000 in
theorem awake_any (w : World) : Calls Try.prog 7 #[] w fun e w' => e = .returned (.bool true) ∧ Keeps w w' := by
  have HB1 := Lib.hid (show Try.prog.built 38 [(1, .int .u32 4294967295)] = some emptyCells.toArray by kernel_rfl)
  have HB2 := Lib.hid (show Try.prog.built 42 [(0, .agg emptyCells.toArray)] = some in0C.toArray by kernel_rfl)
  have HB3 := Lib.hid (show Try.prog.built 44 [(0, .int .i64 5)] = some [Value.int .i64 5, .slice none 0 0].toArray by kernel_rfl)
  have HB4 := Lib.hid (show ∀ a b : Nat, Try.prog.built 26 [(0, .int .i32 1), (1, .slice (some ⟨a, 0, none⟩) 1 1), (2, .slice (some ⟨b, 0, none⟩) 1 1)] = some [Value.int .i32 1, .slice (some ⟨a, 0, none⟩) 1 1, .slice (some ⟨b, 0, none⟩) 1 1, .int .u32 0].toArray from fun a b => by kernel_rfl)
  have hl : in0C.length = 36 := rfl
  have HRT := Lib.hid (fun (W : World) (p q : Nat) (h1 : Row W p 0 in0C) (h2 : Row W q 0 [.int .i64 5, .slice none 0 0]) (hp : p < W.heap.size) (hq : q < W.heap.size) => tx0_rtx h1 h2 hp hq)
  have HL := Lib.hid hl
  clear hl
  generalize in0C = IC at *
  generalize emptyCells = EC at *
  go_enter Try.func7, Try.ntmps7
  go_upto_region 2 with (first | (refine wpList_build_at rfl 38 _ rfl [(1, .int .u32 4294967295)] (by simp only [List.map_toArray, List.map_cons, List.map_nil]; rfl) _ HB1.out ?_) | (refine wpList_build_at rfl 42 _ rfl [(0, .agg EC.toArray)] (by simp only [List.map_toArray, List.map_cons, List.map_nil]; rfl) _ HB2.out ?_) | (refine wpList_build_at rfl 44 _ rfl [(0, .int .i64 5)] (by simp only [List.map_toArray, List.map_cons, List.map_nil]; rfl) _ HB3.out ?_) | (refine wpList_build_at rfl 26 _ rfl [(0, .int .i32 1), (1, .slice (some ⟨_, 0, none⟩) 1 1), (2, .slice (some ⟨_, 0, none⟩) 1 1)] (by simp only [List.map_toArray, List.map_cons, List.map_nil]; rfl) _ (HB4.out _ _) ?_) | (refine wpList_buildSlice1 rfl 22 42 _ rfl 36 96 Try.underlying22 in_info in_zero (by decide) IC rfl HL.out ?_) | (refine wpList_buildSlice1 rfl 23 44 _ rfl 2 32 Try.underlying23 out_info out_zero (by decide) [Value.int .i64 5, .slice none 0 0] rfl rfl ?_) | (refine wpList_store_row rfl 26 (.tmp 1) (.tmp 7) rfl _ 0 rfl [.int .i32 0, .slice none 0 0, .slice none 0 0, .int .u32 0] _ rfl (Row.new _ _ _ rfl) rfl (sz_tx _ _ _ _) (by intro v hv; simp at hv; rcases hv with rfl | rfl | rfl | rfl <;> rfl) ?_; intro W7 hr7 hc7; have HR7 := Lib.hid hr7; have HC7 := Lib.hid hc7; clear hr7 hc7))
  refine wp_rows3 (fun W0 hk hr1 hr2 hr3 hs => ?_)
  have hr1 : Row W0 w.heap.size 0 IC := hr1
  simp only at hr2 hr3
  have hrt := HRT.out W0 _ _ hr1 hr2 (by omega) (by omega)
  have HWT := Lib.hid (fun W (hk' : Keeps W0 W) => weight_any NoB NoB AnyB tx0 _ _ tx0_fits W (hrt.keeps hk') (fun g hg => hg.elim))
  have HVT := Lib.hid (fun W (hk' : Keeps W0 W) => virtual_any NoB NoB AnyB tx0 _ _ tx0_fits W (hrt.keeps hk') (fun g hg => hg.elim))
  have HCB := Lib.hid (fun W (hk' : Keeps W0 W) => coinbase_any NoB NoB AnyB tx0 _ _ W (hrt.keeps hk'))
  have HCK := Lib.hid (fun W (hk' : Keeps W0 W) => check_any NoB NoB AnyB tx0 _ _ tx0_fits W (hrt.keeps hk') (fun g hg => hg.elim))
  have HEN := Lib.hid (fun W (hk' : Keeps W0 W) => enc_any NoB NoB AnyB tx0 _ _ true tx0_fits W (hrt.keeps hk') (fun g hg => hg.elim))
  have HCHK := Lib.hid tx0_chk
  rw [tx0_cb] at HCB
  simp only [tx0_len] at HWT HVT HEN
  generalize Chk tx0 = CHK at *
  simp only [tx0] at HWT HVT HCB HCK HEN
  have HK := Lib.hid hk; have HR := Lib.hid hr3
  clear hk hr1 hr2 hr3 hs hrt HRT HB1 HB2 HB3 HB4 HL
  generalize w.heap.size = p at *
  go_wp2_with (first | (refine wpList_load_on (by kernel_rfl) 26 (.tmp 1) rfl (p + 1 + 1) 0 rfl _ _ (HR.out.keeps (by first | exact HK5.out | exact HK4.out | exact HK3.out | exact HK2.out | exact Keeps.refl _)) Try.underlying26 rfl (sz_tx _ _ _ _) ?_) | (go_at_call 25; refine (HWT.out _ (Keeps.refl _)).mono ?_; rintro e W2 ⟨rfl, hk2⟩; have HK2 := Lib.hid hk2; clear hk2) | (go_at_call 27; refine (HVT.out _ HK2.out).mono ?_; rintro e W3 ⟨rfl, hk3⟩; have HK3 := Lib.hid (HK2.out.trans hk3); clear hk3) | (go_at_call 11; refine (HCB.out _ HK3.out).mono ?_; rintro e W4 ⟨rfl, hk4⟩; have HK4 := Lib.hid (HK3.out.trans hk4); clear hk4) | (go_at_call 9; refine (HCK.out _ HK4.out).mono ?_; rintro e W5 ⟨r5, rfl, hr5, hk5⟩; obtain rfl := HCHK.out _ hr5; have HK5 := Lib.hid (HK4.out.trans hk5); clear hk5 hr5) | (go_at_call 28; refine (HEN.out _ HK5.out).mono ?_; rintro e W6 ⟨v6, rfl, hO6⟩; obtain ⟨a6, c6, rfl⟩ := hO6.any; have HK6 := Lib.hid (HK5.out.trans hO6.keeps); clear hO6))
  go_ret
  exact ⟨rfl, HK.out.trans HK6.out⟩
set_option maxRecDepth 100000 in
theorem few_any (d : TxD) (iv ov : Value) (w : World) (h : RTx AnyB AnyB AnyB w iv ov d) :
    Calls Try.prog 8 #[.agg #[.int .i32 d.ver, iv, ov, .int .u32 d.lock]] w fun e w' => ∃ iv' ov', e = .returned (.agg #[.int .i32 d.ver, iv', ov', .int .u32 d.lock]) ∧ Keeps w w' ∧ ∃ S' T', OwnTx S' T' w.heap.size w' iv' ov' (fewD 10 600 d) := by
  have HT := Lib.hid h
  obtain ⟨ia, ic, rfl, -⟩ := h.ins.any
  obtain ⟨oa, oc, rfl, -⟩ := h.outs.any
  clear h
  have HF := Lib.hid (fun W (hk : Keeps w W) => rfew_any AnyB AnyB AnyB 10 600 (by omega) (by omega) d _ _ W (HT.out.keeps hk))
  go_enter Try.func8, Try.ntmps8
  go_upto_region 1 with (fail)
  refine wp_rows2 (fun W0 hk hr1 hr2 hs1 => ?_)
  simp only at hr1 hr2
  have HK := Lib.hid hk; have HR := Lib.hid hr1; have HR2 := Lib.hid hr2; have HS := Lib.hid hs1
  clear hk hr1 hr2 hs1
  go_wp2_with (first | (refine wpList_load_at rfl 26 (.tmp 1) rfl w.heap.size 0 rfl _ _ HR.out Try.underlying26 rfl (sz_tx _ _ _ _) ?_) | (go_at_call 32; refine (HF.out _ HK.out).mono ?_; rintro e W2 ⟨iv2, ov2, rfl, hk2, S2, T2, ho2⟩; obtain ⟨ia2, ic2, rfl, -⟩ := ho2.rtx.ins.any; obtain ⟨oa2, oc2, rfl, -⟩ := ho2.rtx.outs.any; have HK2 := Lib.hid hk2; have HO2 := Lib.hid ho2; clear hk2 ho2) | (refine wpList_store_row rfl 26 (.tmp 2) (.tmp 4) rfl (w.heap.size + 1) 0 rfl _ [.int .i32 d.ver, .slice ia2 _ ic2, .slice oa2 _ oc2, .int .u32 d.lock] rfl (HR2.out.keeps HK2.out) rfl (sz_tx _ _ _ _) (by intro v hv; simp only [List.mem_cons, List.not_mem_nil, or_false] at hv; rcases hv with rfl | rfl | rfl | rfl <;> rfl) ?_; intro W7 hr7 hc7; have HR7 := Lib.hid hr7; have HC7 := Lib.hid hc7; clear hr7 hc7))
  have hs := HS.out
  refine bodyPost_ret (results_cell_at rfl _ _ (w.heap.size + 1) 0 _ _ (by simp only [Act.put, List.setIfInBounds_toArray, List.set_cons_zero, List.set_cons_succ]; rfl) HR7.out Try.underlying26 rfl (sz_tx _ _ _ _)) rfl ?_
  exact ⟨_, _, rfl, keeps_chg (HK.out.trans HK2.out) HC7.out (by omega), _, _, (HO2.out.chg HC7.out (fun g e => .inl (by omega))).low (by omega)⟩
end Go.Proofs.Ytjfkkdkmpnpmpaa
