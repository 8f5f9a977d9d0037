/- strongboxref09.Check. | strongboxlaw09.awake: yes. strongboxlaw09.few. | tx.reader's tx: reading a whole transaction in steps, in plain Lean; what it holds on the way. -/
import Derived.Test.YtcodpdpeklammaaGD5
import Derived.Test.YtcodpdpeklammaaGD2
import Derived.Test.YtcodpdpeklammaaGB2
import Derived.Test.YtcodpdpeklammaaGC7
namespace Go.Proofs.Ytcodpdpeklammaa
set_option linter.unusedVariables false
set_option linter.unusedSimpArgs false
open Go Go.RowKit

end Go.Proofs.Ytcodpdpeklammaa
namespace Go.Proofs.Ytcodpdpeklammaa
set_option linter.unusedVariables false
set_option linter.unusedSimpArgs false
open Go Go.RowKit

def NoB : Nat → Prop := fun _ => False
def in0 : InD := ⟨zero32, 4294967295, [], 0, []⟩
def tx0 : TxD := ⟨1, [in0], [⟨5, []⟩], 0⟩
theorem rd_none (W : World) (sz : Nat) : Rd W sz (.slice none 0 0) 0 [] := ⟨by simp, none, 0, rfl, Nat.le_refl _, Nat.zero_le _, fun _ => ⟨rfl, rfl⟩, fun ad e _ => (by cases e)⟩
theorem rb_none (S : Nat → Prop) (W : World) : RB S W (.slice none 0 0) [] := ⟨rd_none W 1, fun x hx => (by cases hx), by simp, fun g h => by simp [Value.ownBlock] at h⟩
theorem rll_none (S T : Nat → Prop) (W : World) : RLL S T W (.slice none 0 0) [] := ⟨[], rd_none W 1, fun i u l hu hl => (by simp at hu), by simp, fun g h => by simp [Value.ownBlock] at h⟩
theorem rd_row {W : World} {g sz : Nat} {cs : List Value} (h : Row W g 0 cs) (hl : cs.length = sz) (hg : g < W.heap.size) : Rd W sz (.slice (some ⟨g, 0, none⟩) 1 1) 1 cs :=
  ⟨by rw [hl, Nat.one_mul], some ⟨g, 0, none⟩, 1, rfl, Nat.le_refl _, by unfold maxLen; omega, fun e => (by cases e), fun ad e _ => by cases e; exact ⟨g, 0, rfl, hg, h⟩⟩
def in0C : List Value := emptyCells ++ [.slice none 0 0, .int .u32 0, .slice none 0 0]
theorem in0C_eq : in0C = inCells in0 (.slice none 0 0) (.slice none 0 0) := by
  unfold in0C inCells
  rw [emptyCells_pt]
  show ptCells zero32 4294967295 ++ _ = zero32.map (Value.int .u8) ++ _
  unfold ptCells
  rw [List.append_assoc]
  rfl
theorem in0_ok : in0.Ok := ⟨rfl, zero32_bytes, ⟨by decide, by decide⟩, ⟨by decide, by decide⟩⟩
theorem tx0_rtx {W : World} {p q : Nat} (h1 : Row W p 0 in0C) (h2 : Row W q 0 [.int .i64 5, .slice none 0 0]) (hp : p < W.heap.size) (hq : q < W.heap.size) :
    RTx NoB NoB AnyB W (.slice (some ⟨p, 0, none⟩) 1 1) (.slice (some ⟨q, 0, none⟩) 1 1) tx0 := by
  refine ⟨⟨by decide, by decide⟩, ⟨by decide, by decide⟩, ⟨in0C, [(.slice none 0 0, .slice none 0 0)], rd_row h1 rfl hp, rfl, fun i pp d hp' hd => ?_, by decide, fun g _ => trivial⟩, ⟨[.int .i64 5, .slice none 0 0], [.slice none 0 0], rd_row h2 rfl hq, rfl, fun i pp d hp' hd => ?_, by decide, fun g _ => trivial⟩⟩
  · have hi : i = 0 := by have := (List.getElem?_eq_some_iff.1 hp').1; simp at this; exact this
    subst hi
    simp only [tx0, List.getElem?_cons_zero, Option.some.injEq] at hp' hd
    subst hp' hd
    refine ⟨⟨in0_ok, rb_none _ _, rll_none _ _ _⟩, ?_⟩
    rw [← in0C_eq]
    rfl
  · have hi : i = 0 := by have := (List.getElem?_eq_some_iff.1 hp').1; simp at this; exact this
    subst hi
    simp only [tx0, List.getElem?_cons_zero, Option.some.injEq] at hp' hd
    subst hp' hd
    exact ⟨rb_none _ _, ⟨by decide, by decide⟩, rfl⟩
theorem tx0_fits : Fits tx0 := by unfold Fits; decide +kernel
theorem tx0_len (b : Bool) : (encB tx0 b).length = 60 := by cases b <;> decide +kernel
theorem tx0_cb : cbD tx0 = true := by decide +kernel
theorem tx0_chk (r : Int) (h : Chk tx0 r) : r = 3 := by
  unfold Chk at h
  have h1 := h.2 (by decide)
  have h2 := h1.2 (by rw [tx0_len]; decide)
  have h3 := h2.2 (by decide +kernel)
  have h4 := h3.2 (by
    rintro ⟨i, k, a, b, hk, hi, _⟩
    have := (List.getElem?_eq_some_iff.1 hi).1
    simp [tx0] at this; omega)
  exact (h4.1 tx0_cb).1 ⟨in0, rfl, .inl (by decide)⟩
set_option maxRecDepth 100000 in
set_option maxHeartbeats 2000000 in
theorem awake_any (w : World) : Calls Try.prog 4 #[] w fun e w' => e = .returned (.bool true) ∧ Keeps w w' := by
  have HB1 := Lib.hid (show Try.prog.built 42 [(1, .int .u32 4294967295)] = some emptyCells.toArray by kernel_rfl)
  have HB2 := Lib.hid (show Try.prog.built 45 [(0, .agg emptyCells.toArray)] = some in0C.toArray by kernel_rfl)
  have HB3 := Lib.hid (show Try.prog.built 47 [(0, .int .i64 5)] = some [Value.int .i64 5, .slice none 0 0].toArray by kernel_rfl)
  have HB4 := Lib.hid (show ∀ a b : Nat, Try.prog.built 26 [(0, .int .i32 1), (1, .slice (some ⟨a, 0, none⟩) 1 1), (2, .slice (some ⟨b, 0, none⟩) 1 1)] = some [Value.int .i32 1, .slice (some ⟨a, 0, none⟩) 1 1, .slice (some ⟨b, 0, none⟩) 1 1, .int .u32 0].toArray from fun a b => by kernel_rfl)
  have hl : in0C.length = 36 := rfl
  have HRT := Lib.hid (fun (W : World) (p q : Nat) (h1 : Row W p 0 in0C) (h2 : Row W q 0 [.int .i64 5, .slice none 0 0]) (hp : p < W.heap.size) (hq : q < W.heap.size) => tx0_rtx h1 h2 hp hq)
  have HL := Lib.hid hl
  clear hl
  generalize in0C = IC at *
  generalize emptyCells = EC at *
  go_enter Try.func4, Try.ntmps4
  go_upto_region 2 with (first | (refine wpList_build_at rfl 42 _ rfl [(1, .int .u32 4294967295)] (by simp only [List.map_toArray, List.map_cons, List.map_nil]; rfl) _ HB1.out ?_) | (refine wpList_build_at rfl 45 _ rfl [(0, .agg EC.toArray)] (by simp only [List.map_toArray, List.map_cons, List.map_nil]; rfl) _ HB2.out ?_) | (refine wpList_build_at rfl 47 _ rfl [(0, .int .i64 5)] (by simp only [List.map_toArray, List.map_cons, List.map_nil]; rfl) _ HB3.out ?_) | (refine wpList_build_at rfl 26 _ rfl [(0, .int .i32 1), (1, .slice (some ⟨_, 0, none⟩) 1 1), (2, .slice (some ⟨_, 0, none⟩) 1 1)] (by simp only [List.map_toArray, List.map_cons, List.map_nil]; rfl) _ (HB4.out _ _) ?_) | (refine wpList_buildSlice1 rfl 22 45 _ rfl 36 96 Try.underlying22 in_info in_zero (by decide) IC rfl HL.out ?_) | (refine wpList_buildSlice1 rfl 23 47 _ rfl 2 32 Try.underlying23 out_info out_zero (by decide) [Value.int .i64 5, .slice none 0 0] rfl rfl ?_) | (refine wpList_store_row rfl 26 (.tmp 1) (.tmp 7) rfl _ 0 rfl [.int .i32 0, .slice none 0 0, .slice none 0 0, .int .u32 0] _ rfl (Row.new _ _ _ rfl) rfl (sz_tx _ _ _ _) (by intro v hv; simp at hv; rcases hv with rfl | rfl | rfl | rfl <;> rfl) ?_; intro W7 hr7 hc7; have HR7 := Lib.hid hr7; have HC7 := Lib.hid hc7; clear hr7 hc7))
  refine wp_rows3 (fun W0 hk hr1 hr2 hr3 hs => ?_)
  have hr1 : Row W0 w.heap.size 0 IC := hr1
  simp only at hr2 hr3
  have hrt := HRT.out W0 _ _ hr1 hr2 (by omega) (by omega)
  have HWT := Lib.hid (fun W (hk' : Keeps W0 W) => weight_any NoB NoB AnyB tx0 _ _ tx0_fits W (hrt.keeps hk') (fun g hg => hg.elim))
  have HVT := Lib.hid (fun W (hk' : Keeps W0 W) => virtual_any NoB NoB AnyB tx0 _ _ tx0_fits W (hrt.keeps hk') (fun g hg => hg.elim))
  have HCB := Lib.hid (fun W (hk' : Keeps W0 W) => coinbase_any NoB NoB AnyB tx0 _ _ W (hrt.keeps hk'))
  have HCK := Lib.hid (fun W (hk' : Keeps W0 W) => check_any NoB NoB AnyB tx0 _ _ tx0_fits W (hrt.keeps hk') (fun g hg => hg.elim))
  have HEN := Lib.hid (fun W (hk' : Keeps W0 W) => enc_any NoB NoB AnyB tx0 _ _ true tx0_fits W (hrt.keeps hk') (fun g hg => hg.elim))
  have HCHK := Lib.hid tx0_chk
  rw [tx0_cb] at HCB
  simp only [tx0_len] at HWT HVT HEN
  generalize Chk tx0 = CHK at *
  simp only [tx0] at HWT HVT HCB HCK HEN
  have HK := Lib.hid hk; have HR := Lib.hid hr3
  clear hk hr1 hr2 hr3 hs hrt HRT HB1 HB2 HB3 HB4 HL
  generalize w.heap.size = p at *
  go_wp2_with (first | (refine wpList_load_on (by kernel_rfl) 26 (.tmp 1) rfl (p + 1 + 1) 0 rfl _ _ (HR.out.keeps (by first | exact HK5.out | exact HK4.out | exact HK3.out | exact HK2.out | exact Keeps.refl _)) Try.underlying26 rfl (sz_tx _ _ _ _) ?_) | (go_at_call 13; refine (HWT.out _ (Keeps.refl _)).mono ?_; rintro e W2 ⟨rfl, hk2⟩; have HK2 := Lib.hid hk2; clear hk2) | (go_at_call 14; refine (HVT.out _ HK2.out).mono ?_; rintro e W3 ⟨rfl, hk3⟩; have HK3 := Lib.hid (HK2.out.trans hk3); clear hk3) | (go_at_call 15; refine (HCB.out _ HK3.out).mono ?_; rintro e W4 ⟨rfl, hk4⟩; have HK4 := Lib.hid (HK3.out.trans hk4); clear hk4) | (go_at_call 16; refine (HCK.out _ HK4.out).mono ?_; rintro e W5 ⟨r5, rfl, hr5, hk5⟩; obtain rfl := HCHK.out _ hr5; have HK5 := Lib.hid (HK4.out.trans hk5); clear hk5 hr5) | (go_at_call 6; refine (HEN.out _ HK5.out).mono ?_; rintro e W6 ⟨v6, rfl, hO6⟩; obtain ⟨a6, c6, rfl⟩ := hO6.any; have HK6 := Lib.hid (HK5.out.trans hO6.keeps); clear hO6))
  go_ret
  exact ⟨rfl, HK.out.trans HK6.out⟩
set_option maxRecDepth 100000 in
theorem few_any (d : TxD) (iv ov : Value) (w : World) (h : RTx AnyB AnyB AnyB w iv ov d) :
    Calls Try.prog 5 #[.agg #[.int .i32 d.ver, iv, ov, .int .u32 d.lock]] w fun e w' => ∃ iv' ov', e = .returned (.agg #[.int .i32 d.ver, iv', ov', .int .u32 d.lock]) ∧ Keeps w w' ∧ ∃ S' T', OwnTx S' T' w.heap.size w' iv' ov' (fewD 10 600 d) := by
  have HT := Lib.hid h
  obtain ⟨ia, ic, rfl, -⟩ := h.ins.any
  obtain ⟨oa, oc, rfl, -⟩ := h.outs.any
  clear h
  have HF := Lib.hid (fun W (hk : Keeps w W) => rfew_any AnyB AnyB AnyB 10 600 (by omega) (by omega) d _ _ W (HT.out.keeps hk))
  go_enter Try.func5, Try.ntmps5
  go_upto_region 1 with (fail)
  refine wp_rows2 (fun W0 hk hr1 hr2 hs1 => ?_)
  simp only at hr1 hr2
  have HK := Lib.hid hk; have HR := Lib.hid hr1; have HR2 := Lib.hid hr2; have HS := Lib.hid hs1
  clear hk hr1 hr2 hs1
  go_wp2_with (first | (refine wpList_load_at rfl 26 (.tmp 1) rfl w.heap.size 0 rfl _ _ HR.out Try.underlying26 rfl (sz_tx _ _ _ _) ?_) | (go_at_call 17; refine (HF.out _ HK.out).mono ?_; rintro e W2 ⟨iv2, ov2, rfl, hk2, S2, T2, ho2⟩; obtain ⟨ia2, ic2, rfl, -⟩ := ho2.rtx.ins.any; obtain ⟨oa2, oc2, rfl, -⟩ := ho2.rtx.outs.any; have HK2 := Lib.hid hk2; have HO2 := Lib.hid ho2; clear hk2 ho2) | (refine wpList_store_row rfl 26 (.tmp 2) (.tmp 4) rfl (w.heap.size + 1) 0 rfl _ [.int .i32 d.ver, .slice ia2 _ ic2, .slice oa2 _ oc2, .int .u32 d.lock] rfl (HR2.out.keeps HK2.out) rfl (sz_tx _ _ _ _) (by intro v hv; simp only [List.mem_cons, List.not_mem_nil, or_false] at hv; rcases hv with rfl | rfl | rfl | rfl <;> rfl) ?_; intro W7 hr7 hc7; have HR7 := Lib.hid hr7; have HC7 := Lib.hid hc7; clear hr7 hc7))
  have hs := HS.out
  refine bodyPost_ret (results_cell_at rfl _ _ (w.heap.size + 1) 0 _ _ (by simp only [Act.put, List.setIfInBounds_toArray, List.set_cons_zero, List.set_cons_succ]; rfl) HR7.out Try.underlying26 rfl (sz_tx _ _ _ _)) rfl ?_
  exact ⟨_, _, rfl, keeps_chg (HK.out.trans HK2.out) HC7.out (by omega), _, _, (HO2.out.chg HC7.out (fun g e => .inl (by omega))).low (by omega)⟩
end Go.Proofs.Ytcodpdpeklammaa
namespace Go.Proofs.Ytcodpdpeklammaa
set_option linter.unusedVariables false
set_option linter.unusedSimpArgs false
open Go Go.RowKit
variable {B : Nat}
def rdEnd (ver : Int) (second : Bool) (ins2 : List InD) (outs : List OutD) : Rdr TxD := rdBind (rdNum 4) (fun lock =>
      fun r => if (second && !witnessedD ⟨ver, ins2, outs, lock⟩) || decide (0 < r.length) then .error 3 else .ok (⟨ver, ins2, outs, lock⟩, r))
def rdRest3 (ver : Int) (second : Bool) (ins : List InD) (outs : List OutD) : Rdr TxD := rdBind (if second then rdWits ins ins.length else rdOk ins) (fun ins2 => rdEnd ver second ins2 outs)
def rdRest2 (ver : Int) (second : Bool) (ins : List InD) : Rdr TxD := rdBind rdCount (fun m => rdBind (rdMany rdOut m) (fun outs => rdRest3 ver second ins outs))
theorem rdRest_eq (ver : Int) (second : Bool) (n : Nat) : rdRest ver second n = rdBind (rdMany rdIn n) (fun ins => rdRest2 ver second ins) := rfl
theorem tx_e1 {l : List Int} {c : Int} (h : rdNum 4 l = .error c) : rdTx l = .error c := by unfold rdTx; exact rdBind_err h
theorem tx_e2 {l r : List Int} {x c : Int} (h : rdNum 4 l = .ok (x, r)) (h2 : rdCount r = .error c) : rdTx l = .error c := by unfold rdTx; rw [rdBind_ok h]; exact rdBind_err h2
theorem tx_plain {l r r2 : List Int} {x : Int} {n : Nat} (h : rdNum 4 l = .ok (x, r)) (h2 : rdCount r = .ok (n, r2)) (hn : n ≠ 0) : rdTx l = rdRest (toI32 x) false n r2 := by unfold rdTx; rw [rdBind_ok h, rdBind_ok h2, if_neg hn]
theorem tx_e3 {l r r2 : List Int} {x c : Int} (h : rdNum 4 l = .ok (x, r)) (h2 : rdCount r = .ok (0, r2)) (h3 : rdNum 1 r2 = .error c) : rdTx l = .error c := by unfold rdTx; rw [rdBind_ok h, rdBind_ok h2, if_pos rfl]; exact rdBind_err h3
theorem tx_e4 {l r r2 r3 : List Int} {x f : Int} (h : rdNum 4 l = .ok (x, r)) (h2 : rdCount r = .ok (0, r2)) (h3 : rdNum 1 r2 = .ok (f, r3)) (hf : f ≠ 1) : rdTx l = .error 3 := by unfold rdTx; rw [rdBind_ok h, rdBind_ok h2, if_pos rfl, rdBind_ok h3, if_pos hf]; rfl
theorem tx_e5 {l r r2 r3 : List Int} {x c : Int} (h : rdNum 4 l = .ok (x, r)) (h2 : rdCount r = .ok (0, r2)) (h3 : rdNum 1 r2 = .ok (1, r3)) (h4 : rdCount r3 = .error c) : rdTx l = .error c := by unfold rdTx; rw [rdBind_ok h, rdBind_ok h2, if_pos rfl, rdBind_ok h3, if_neg (by simp)]; exact rdBind_err h4
theorem tx_second {l r r2 r3 r4 : List Int} {x : Int} {n : Nat} (h : rdNum 4 l = .ok (x, r)) (h2 : rdCount r = .ok (0, r2)) (h3 : rdNum 1 r2 = .ok (1, r3)) (h4 : rdCount r3 = .ok (n, r4)) : rdTx l = rdRest (toI32 x) true n r4 := by unfold rdTx; rw [rdBind_ok h, rdBind_ok h2, if_pos rfl, rdBind_ok h3, if_neg (by simp), rdBind_ok h4]
theorem rest_e1 {v : Int} {s : Bool} {n : Nat} {l : List Int} {c : Int} (h : rdMany rdIn n l = .error c) : rdRest v s n l = .error c := by rw [rdRest_eq]; exact rdBind_err h
theorem rest_ok1 {v : Int} {s : Bool} {n : Nat} {l r : List Int} {ins : List InD} (h : rdMany rdIn n l = .ok (ins, r)) : rdRest v s n l = rdRest2 v s ins r := by rw [rdRest_eq]; exact rdBind_ok h
theorem rest_e2 {v : Int} {s : Bool} {ins : List InD} {l : List Int} {c : Int} (h : rdCount l = .error c) : rdRest2 v s ins l = .error c := rdBind_err h
theorem rest_e3 {v : Int} {s : Bool} {ins : List InD} {l r : List Int} {m : Nat} {c : Int} (h : rdCount l = .ok (m, r)) (h2 : rdMany rdOut m r = .error c) : rdRest2 v s ins l = .error c := by unfold rdRest2; rw [rdBind_ok h]; exact rdBind_err h2
theorem rest_ok2 {v : Int} {s : Bool} {ins : List InD} {l r r2 : List Int} {m : Nat} {outs : List OutD} (h : rdCount l = .ok (m, r)) (h2 : rdMany rdOut m r = .ok (outs, r2)) : rdRest2 v s ins l = rdRest3 v s ins outs r2 := by unfold rdRest2; rw [rdBind_ok h]; exact rdBind_ok h2
theorem rest_plain {v : Int} {ins : List InD} {outs : List OutD} {l : List Int} : rdRest3 v false ins outs l = rdEnd v false ins outs l := rfl
theorem rest_e4 {v : Int} {ins : List InD} {outs : List OutD} {l : List Int} {c : Int} (h : rdWits ins ins.length l = .error c) : rdRest3 v true ins outs l = .error c := by unfold rdRest3; rw [if_pos rfl]; exact rdBind_err h
theorem rest_ok4 {v : Int} {ins ins2 : List InD} {outs : List OutD} {l r : List Int} (h : rdWits ins ins.length l = .ok (ins2, r)) : rdRest3 v true ins outs l = rdEnd v true ins2 outs r := by unfold rdRest3; rw [if_pos rfl]; exact rdBind_ok h
theorem end_e1 {v : Int} {s : Bool} {ins : List InD} {outs : List OutD} {l : List Int} {c : Int} (h : rdNum 4 l = .error c) : rdEnd v s ins outs l = .error c := rdBind_err h
theorem end_e2 {v : Int} {s : Bool} {ins : List InD} {outs : List OutD} {l r : List Int} {x : Int} (h : rdNum 4 l = .ok (x, r)) (hw : s = true ∧ witnessedD ⟨v, ins, outs, x⟩ = false) : rdEnd v s ins outs l = .error 3 := by unfold rdEnd; rw [rdBind_ok h, if_pos (by simp [hw.1, hw.2])]
theorem end_e3 {v : Int} {s : Bool} {ins : List InD} {outs : List OutD} {l r : List Int} {x : Int} (h : rdNum 4 l = .ok (x, r)) (hr : 0 < r.length) : rdEnd v s ins outs l = .error 3 := by unfold rdEnd; rw [rdBind_ok h, if_pos (by simp [hr])]
theorem end_ok {v : Int} {s : Bool} {ins : List InD} {outs : List OutD} {l r : List Int} {x : Int} (h : rdNum 4 l = .ok (x, r)) (hw : s = true → witnessedD ⟨v, ins, outs, x⟩ = true) (hr : ¬ 0 < r.length) : rdEnd v s ins outs l = .ok (⟨v, ins, outs, x⟩, r) := by
  obtain rfl : r = [] := List.eq_nil_of_length_eq_zero (by omega)
  unfold rdEnd
  rw [rdBind_ok h, if_neg]
  cases s
  · simp
  · simp [hw rfl]
theorem toI32_range {x : Int} (h0 : 0 ≤ x) (h1 : x < 4294967296) : I32 (toI32 x) := by unfold toI32 I32; split <;> omega

/-- fresh blocks up to N, but the row of v -/
def FrN (base N : Nat) (v : Value) (k : Nat) : Prop := base ≤ k ∧ k < N ∧ v.ownBlock ≠ some k
/-- inputs that were read: rows in fresh memory -/
def GotI (base N : Nat) (W : World) (v : Value) (l : List InD) : Prop := ∃ cs ps, RIns (FrN base N v) (FrN base N v) (fun k => v.ownBlock = some k) W v l cs ps ∧ (∀ k, v.ownBlock = some k → base ≤ k ∧ k < N) ∧ N ≤ W.heap.size
def GotO (base N : Nat) (W : World) (v : Value) (l : List OutD) : Prop := ROutsX (fun k => base ≤ k ∧ k < N) (fun k => base ≤ k ∧ k < N) W v l ∧ N ≤ W.heap.size
theorem GotI.any {base N : Nat} {W : World} {v : Value} {l : List InD} (h : GotI base N W v l) : ∃ a cap, v = .slice a l.length cap ∧ l.length ≤ cap ∧ cap ≤ maxLen ∧ (a = none → l.length = 0 ∧ cap = 0) := by
  obtain ⟨cs, ps, h, _⟩ := h
  exact RInsX.any ⟨cs, ps, h⟩
theorem GotO.any {base N : Nat} {W : World} {v : Value} {l : List OutD} (h : GotO base N W v l) : ∃ a cap, v = .slice a l.length cap ∧ l.length ≤ cap ∧ cap ≤ maxLen ∧ (a = none → l.length = 0 ∧ cap = 0) := h.1.any
theorem OwnI.got {S T : Nat → Prop} {base : Nat} {W : World} {v : Value} {l : List InD} {cs : List Value} {ps : List (Value × Value)} (h : OwnI S T base W v l cs ps) (hl : l.length * 96 ≤ 140737488355328) : GotI base W.heap.size W v l :=
  ⟨cs, ps, ⟨h.buf.rd, h.plen, fun i p d hp hd => ⟨(h.each i p d hp hd).1.mono (fun g hg => h.fresh g (.inl hg)) (fun g hg => h.fresh g (.inr hg)), (h.each i p d hp hd).2⟩, hl, fun g e => e⟩, fun k e => ⟨h.new k e, h.buf.lt e⟩, Nat.le_refl _⟩
theorem OwnO.got {S : Nat → Prop} {base : Nat} {W : World} {v : Value} {l : List OutD} {cs : List Value} {ps : List Value} (h : OwnO S base W v l cs ps) (hl : l.length * 32 ≤ 140737488355328) : GotO base W.heap.size W v l :=
  ⟨(h.outs hl).mono (fun g hg => ⟨(h.fresh g hg).1, (h.fresh g hg).2.1⟩) (fun g e => ⟨h.new g e, h.buf.lt e⟩), Nat.le_refl _⟩
theorem GotI.chg {X : Nat → Prop} {base N : Nat} {W W' : World} {v : Value} {l : List InD} (h : GotI base N W v l) (hc : Chg X W W') (hx : ∀ k, X k → k < base ∨ N ≤ k) : GotI base N W' v l := by
  obtain ⟨cs, ps, h, hv, hN⟩ := h
  have hS : ∀ g, FrN base N v g → ¬ X g := fun g hg hxg => by have h1 := hx g hxg; have h2 := hg.1; have h3 := hg.2.1; omega
  refine ⟨cs, ps, ⟨h.rd.chg hc (fun g e hxg => by have h1 := hx g hxg; have h2 := hv g e; omega), h.plen, fun i p d hp hd => ⟨(h.each i p d hp hd).1.chg hc hS hS, (h.each i p d hp hd).2⟩, h.small, h.foot⟩, hv, Nat.le_trans hN hc.size⟩
theorem GotO.chg {X : Nat → Prop} {base N : Nat} {W W' : World} {v : Value} {l : List OutD} (h : GotO base N W v l) (hc : Chg X W W') (hx : ∀ k, X k → k < base ∨ N ≤ k) : GotO base N W' v l :=
  ⟨h.1.chg hc (fun g hg hxg => by have h1 := hx g hxg; have h2 := hg.1; have h3 := hg.2; omega) (fun g hg hxg => by have h1 := hx g hxg; have h2 := hg.1; have h3 := hg.2; omega), Nat.le_trans h.2 hc.size⟩
theorem GotI.up {base N N' : Nat} {W : World} {v : Value} {l : List InD} (h : GotI base N W v l) (hN : N ≤ N') (hN' : N' ≤ W.heap.size) : GotI base N' W v l := by
  obtain ⟨cs, ps, h, hv, _⟩ := h
  have hS : ∀ g, FrN base N v g → FrN base N' v g := fun g hg => ⟨hg.1, Nat.lt_of_lt_of_le hg.2.1 hN, hg.2.2⟩
  exact ⟨cs, ps, ⟨h.rd, h.plen, fun i p d hp hd => ⟨(h.each i p d hp hd).1.mono hS hS, (h.each i p d hp hd).2⟩, h.small, h.foot⟩, fun k e => ⟨(hv k e).1, Nat.lt_of_lt_of_le (hv k e).2 hN⟩, hN'⟩
theorem GotI.low {base b N : Nat} {W : World} {v : Value} {l : List InD} (h : GotI base N W v l) (hb : b ≤ base) : GotI b N W v l := by
  obtain ⟨cs, ps, h, hv, hN⟩ := h
  have hS : ∀ g, FrN base N v g → FrN b N v g := fun g hg => ⟨Nat.le_trans hb hg.1, hg.2⟩
  exact ⟨cs, ps, ⟨h.rd, h.plen, fun i p d hp hd => ⟨(h.each i p d hp hd).1.mono hS hS, (h.each i p d hp hd).2⟩, h.small, h.foot⟩, fun k e => ⟨Nat.le_trans hb (hv k e).1, (hv k e).2⟩, hN⟩
theorem GotO.low {base b N : Nat} {W : World} {v : Value} {l : List OutD} (h : GotO base N W v l) (hb : b ≤ base) : GotO b N W v l :=
  ⟨h.1.mono (fun g hg => ⟨Nat.le_trans hb hg.1, hg.2⟩) (fun g hg => ⟨Nat.le_trans hb hg.1, hg.2⟩), h.2⟩
theorem GotI.ins {base N : Nat} {W : World} {v : Value} {l : List InD} (h : GotI base N W v l) : RInsX (fun k => base ≤ k ∧ k < N) (fun k => base ≤ k ∧ k < N) (fun k => base ≤ k ∧ k < N) W v l := by
  obtain ⟨cs, ps, h, hv, _⟩ := h
  exact (RInsX.mono ⟨cs, ps, h⟩ (fun g hg => ⟨hg.1, hg.2.1⟩) (fun g hg => ⟨hg.1, hg.2.1⟩) (fun g hg => hv g hg))
/-- the element's row -/
theorem GotI.at {base N : Nat} {W : World} {a : Option Addr} {n cap : Nat} {l : List InD} (h : GotI base N W (.slice a n cap) l) (i : Nat) (hi : i < l.length) :
    ∃ g off sv wv d, a = some ⟨g, off, none⟩ ∧ base ≤ g ∧ g < N ∧ l[i]? = some d ∧ Row W g (off + i * 36) (inCells d sv wv) ∧ d.hash.length = 32 := by
  obtain ⟨cs, ps, h, hv, hN⟩ := h
  obtain ⟨g, off, sv, wv, d, rfl, hg, hd, hr, hin⟩ := RInsX.at ⟨cs, ps, h⟩ i hi
  have := hv g rfl
  exact ⟨g, off, sv, wv, d, rfl, this.1, this.2, hd, hr, hin.ok.hashLen⟩
/-- the items of an input written -/
theorem GotI.put {base N : Nat} {W : World} {g off n cap : Nat} {l : List InD} (h : GotI base N W (.slice (some ⟨g, off, none⟩) n cap) l) (i : Nat) (di : InD) (hd : l[i]? = some di) (wv : Value) (ls : List (List Int)) (hw : RLL (FrN base N (.slice (some ⟨g, off, none⟩) n cap)) (FrN base N (.slice (some ⟨g, off, none⟩) n cap)) W wv ls) :
    GotI base N (W.setCell ⟨g, off + i * 36 + 35, none⟩ wv) (.slice (some ⟨g, off, none⟩) n cap) (l.set i { di with wit := ls }) := by
  obtain ⟨cs, ps, h, hv, hN⟩ := h
  have hil : i < l.length := (List.getElem?_eq_some_iff.1 hd).1
  have hp : ps[i]? = some (ps[i]'(by rw [h.plen]; exact hil)) := List.getElem?_eq_getElem (by rw [h.plen]; exact hil)
  obtain ⟨e1, e2⟩ := h.each i _ di hp hd
  have hS : ∀ b, FrN base N (.slice (some ⟨g, off, none⟩) n cap) b → b ≠ g := fun b hb e => hb.2.2 (by rw [e]; rfl)
  refine ⟨_, _, h.put i di hd _ hp 35 (by omega) wv { di with wit := ls } ((ps[i]'(by rw [h.plen]; exact hil)).1, wv) (inCells_set35 _ _ _ _ _ e1.ok.hashLen) ⟨⟨e1.ok.hashLen, e1.ok.hash, e1.ok.index, e1.ok.seq⟩, e1.script, hw⟩ hS hS, hv, by simpa using hN⟩
theorem set_done {xs l : List InD} {i : Nat} {d : InD} (hx : xs.length = i) (hi : i < l.length) : (xs ++ l.drop i).set i d = (xs ++ [d]) ++ l.drop (i + 1) := by
  subst hx
  rw [List.set_append_right _ _ (Nat.le_refl _), Nat.sub_self, List.drop_eq_getElem_cons hi]
  simp only [List.set_cons_zero, List.append_assoc, List.cons_append, List.nil_append]
theorem wp_join2 {P : Program} {c rest : Code} {Q Q0 : Exit → Act → World → Prop} {K1 : Act → World → Prop} {a : Act} {w : World} (ts : List Nat) (J : List Value → World → Prop) (hK1 : ∀ a w, Code.wp P rest Q a w → K1 a w)
    (h2 : (∀ us w', us.length = ts.length → J us w' → K1 (putAll a ts us) w') → Code.wp P c Q0 a w) (h1 : ∀ us w', us.length = ts.length → J us w' → Code.wp P rest Q (putAll a ts us) w') : Code.wp P c Q0 a w :=
  h2 (fun us w' hl hj => hK1 _ _ (h1 us w' hl hj))
end Go.Proofs.Ytcodpdpeklammaa
