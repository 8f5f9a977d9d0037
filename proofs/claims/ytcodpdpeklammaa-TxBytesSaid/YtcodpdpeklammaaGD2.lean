/- Size, Weight, Virtual; how many bytes a cut transaction has. | A place of an output as a map's key, and two of them compared; both Coinbase. -/
import Derived.Test.YtcodpdpeklammaaGD1
import Derived.Test.YtcodpdpeklammaaGB1
import Derived.Test.YtcodpdpeklammaaGD0
import Derived.DeepKeys4
import Derived.DeepKeys
import Derived.Maps.OwnSet
import Derived.Laws.StructEq
namespace Go.Proofs.Ytcodpdpeklammaa
set_option linter.unusedVariables false
set_option linter.unusedSimpArgs false
open Go Go.RowKit

theorem fits_few (d : TxD) (h : d.ins.all (fun i => i.hash.length == 32) = true) : Fits (fewD 10 600 d) := by
  have ht : ∀ l : List Int, l.length ≤ 600 → (textB l).length ≤ 609 := fun l hl => by
    have := sizeB_len (l.length : Int)
    unfold textB; rw [List.length_append]; omega
  have h1 : ((fewD 10 600 d).ins.flatMap inB).length ≤ 10 * 649 := by
    refine Nat.le_trans (flat_le inB 649 _ (fun x hx => ?_)) (Nat.mul_le_mul_right _ (by simp [fewD]; omega))
    obtain ⟨y, hy, rfl⟩ := List.mem_map.1 hx
    have h32 : y.hash.length = 32 := by have := List.all_eq_true.1 h y (List.mem_of_mem_take hy); simpa using this
    have := ht (y.script.take 600) (by simp; omega)
    unfold inB trimIn
    simp only [List.length_append, leB_length]
    omega
  have h2 : ((fewD 10 600 d).outs.flatMap outB).length ≤ 10 * 617 := by
    refine Nat.le_trans (flat_le outB 617 _ (fun x hx => ?_)) (Nat.mul_le_mul_right _ (by simp [fewD]; omega))
    obtain ⟨y, hy, rfl⟩ := List.mem_map.1 hx
    have := ht (y.script.take 600) (by simp; omega)
    unfold outB trimOut
    simp only [List.length_append, leB_length]
    omega
  have h3 : ((fewD 10 600 d).ins.flatMap witB).length ≤ 10 * 6099 := by
    refine Nat.le_trans (flat_le witB 6099 _ (fun x hx => ?_)) (Nat.mul_le_mul_right _ (by simp [fewD]; omega))
    obtain ⟨y, hy, rfl⟩ := List.mem_map.1 hx
    have hs := sizeB_len ((trimIn 10 600 y).wit.length : Int)
    have hw : ((trimIn 10 600 y).wit.flatMap textB).length ≤ 10 * 609 := by
      refine Nat.le_trans (flat_le textB 609 _ (fun z hz => ?_)) (Nat.mul_le_mul_right _ (by simp [trimIn]; omega))
      obtain ⟨q, hq, rfl⟩ := List.mem_map.1 hz
      exact ht _ (by simp; omega)
    unfold witB
    rw [List.length_append]
    omega
  have s1 := sizeB_len ((fewD 10 600 d).ins.length : Int)
  have s2 := sizeB_len ((fewD 10 600 d).outs.length : Int)
  unfold Fits insB outsB
  rw [List.length_append, List.length_append]
  omega
theorem enc_le (d : TxD) (wit : Bool) (h : Fits d) : (encB d wit).length ≤ 1000000000010 := by
  unfold Fits at h
  unfold encB
  simp only [List.length_append, leB_length]
  by_cases hc : (wit && witnessedD d) = true
  · rw [if_pos hc, if_pos hc]; simp only [List.length_cons, List.length_nil]; omega
  · rw [if_neg hc, if_neg hc]; simp only [List.length_nil]; omega
set_option maxRecDepth 100000 in
theorem size_any2 (S T R : Nat → Prop) (d : TxD) (iv ov : Value) (hf : Fits d) (w : World) (h : RTx S T R w iv ov d) (hS : ∀ g, S g → g < w.heap.size) :
    Calls Try.prog 43 #[.agg #[.int .i32 d.ver, iv, ov, .int .u32 d.lock]] w fun e w' => e = .returned (.int .i64 (encB d true).length) ∧ Keeps w w' := by
  have HT := Lib.hid h; have HS := Lib.hid hS
  obtain ⟨ia, ic, rfl, -⟩ := h.ins.any
  obtain ⟨oa, oc, rfl, -⟩ := h.outs.any
  have hle := enc_le d true hf
  clear h hS
  have HENC := Lib.hid (fun W (hk : Keeps w W) => enc_any S T R d _ _ true hf W (HT.out.keeps hk) (fun g hg => Nat.lt_of_lt_of_le (HS.out g hg) hk.size))
  generalize encB d true = EB at *
  go_enter Try.func43, Try.ntmps43
  go_upto_region 1 with (fail)
  refine wp_rows1 (fun W0 hk hr1 hs1 => ?_)
  simp only at hr1
  obtain ⟨b0, b1, b2, b3⟩ := hr1.cell4
  have HK := Lib.hid hk
  clear hk hr1 hs1
  go_wp2_with (go_at_call 6; refine (HENC.out _ HK.out).mono ?_; rintro e W2 ⟨v2, rfl, hO2⟩; obtain ⟨a2, c2, rfl⟩ := hO2.any; have HO2 := Lib.hid hO2; clear hO2)
  go_ret
  exact ⟨rfl, HK.out.trans HO2.out.keeps⟩
set_option maxRecDepth 100000 in
set_option maxHeartbeats 1000000 in
theorem weight_any (S T R : Nat → Prop) (d : TxD) (iv ov : Value) (hf : Fits d) (w : World) (h : RTx S T R w iv ov d) (hS : ∀ g, S g → g < w.heap.size) :
    Calls Try.prog 13 #[.agg #[.int .i32 d.ver, iv, ov, .int .u32 d.lock]] w fun e w' => e = .returned (.int .i64 (3 * (encB d false).length + (encB d true).length)) ∧ Keeps w w' := by
  have HT := Lib.hid h; have HS := Lib.hid hS
  obtain ⟨ia, ic, rfl, -⟩ := h.ins.any
  obtain ⟨oa, oc, rfl, -⟩ := h.outs.any
  have hle := enc_le d true hf
  have hle2 := enc_le d false hf
  clear h hS
  have HENC := Lib.hid (fun W (hk : Keeps w W) => enc_any S T R d _ _ false hf W (HT.out.keeps hk) (fun g hg => Nat.lt_of_lt_of_le (HS.out g hg) hk.size))
  have HSZ := Lib.hid (fun W (hk : Keeps w W) => size_any2 S T R d _ _ hf W (HT.out.keeps hk) (fun g hg => Nat.lt_of_lt_of_le (HS.out g hg) hk.size))
  generalize encB d true = EB at *
  generalize encB d false = EC at *
  go_enter Try.func13, Try.ntmps13
  go_upto_region 1 with (fail)
  refine wp_rows1 (fun W0 hk hr1 hs1 => ?_)
  simp only at hr1
  have HK := Lib.hid hk; have HR := Lib.hid hr1
  clear hk hr1 hs1
  generalize w.heap.size = p at *
  refine wp_region_head (S := fun W => Hid ((fun W => Keeps W0 W) W)) 6 (by kernel_rfl) (by kernel_rfl) ?_ (fun hHeld => ?_)
  focus exact Lib.hid (keeps_drew (Keeps.refl _))
  refine wpAnyHL_take (i := 0) (oi := ?_) (v := ?_) ?_ ?_ ?_ ?_ ?_ ?_ ?_ ?_ ?_ (Or.inl ⟨?_, ?_⟩) ?_ ?_
  rotate_left 2
  focus (simp only [List.getElem?_toArray, List.getElem?_cons_succ, List.getElem?_cons_zero]; exact rfl)
  focus kernel_rfl
  focus kernel_rfl
  focus kernel_rfl
  focus kernel_rfl
  focus kernel_rfl
  focus kernel_rfl
  focus kernel_rfl
  focus (exact fun _ _ _ h => h)
  focus rfl
  focus (intro wSw hSw; (have hSw := hSw.out); (refine run_load_row 26 (.tmp 1) ?_ p 0 ?_ _ _ (HR.out.keeps hSw) Try.underlying26 rfl (sz_tx _ _ _ _)) <;> rfl)
  focus assumption
  try simp only [Act.put, List.setIfInBounds_toArray, List.set_cons_zero, List.set_cons_succ]
  refine wpAnyHL_take (i := 4) (oi := ?_) (v := ?_) ?_ ?_ ?_ ?_ ?_ ?_ ?_ ?_ ?_ (Or.inl ⟨?_, ?_⟩) ?_ ?_
  rotate_left 2
  focus (simp only [List.getElem?_toArray, List.getElem?_cons_succ, List.getElem?_cons_zero]; exact rfl)
  focus kernel_rfl
  focus kernel_rfl
  focus kernel_rfl
  focus kernel_rfl
  focus kernel_rfl
  focus kernel_rfl
  focus kernel_rfl
  focus (exact fun _ _ _ h => h)
  focus rfl
  focus (intro wSw hSw; (have hSw := hSw.out); (refine run_load_row 26 (.tmp 1) ?_ p 0 ?_ _ _ (HR.out.keeps hSw) Try.underlying26 rfl (sz_tx _ _ _ _)) <;> rfl)
  focus assumption
  try simp only [Act.put, List.setIfInBounds_toArray, List.set_cons_zero, List.set_cons_succ]
  refine wpAnyHL_one (i := 1) (o := ?_) (by kernel_rfl) (by kernel_rfl) ?_ ?_
  rotate_left 1
  focus (simp only [List.getElem?_toArray, List.getElem?_cons_succ, List.getElem?_cons_zero]; exact rfl)
  go_wp2_with (go_at_call 6; refine (HENC.out _ (HK.out.trans hHeld.out)).mono ?_; rintro e W2 ⟨v2, rfl, hO2⟩; obtain ⟨a2, c2, rfl⟩ := hO2.any; have HO2 := Lib.hid hO2; clear hO2)
  try dsimp only [StepQ]
  refine ⟨?_, fun hHeld => ?_⟩
  focus (exact Lib.hid (hHeld.out.trans HO2.out.keeps))
  try simp only [Act.put, List.setIfInBounds_toArray, List.set_cons_zero, List.set_cons_succ]
  refine wpAnyHL_take (i := 2) (oi := ?_) (v := ?_) ?_ ?_ ?_ ?_ ?_ ?_ ?_ ?_ ?_ (Or.inl ⟨?_, ?_⟩) ?_ ?_
  rotate_left 2
  focus (simp only [List.getElem?_toArray, List.getElem?_cons_succ, List.getElem?_cons_zero]; exact rfl)
  focus kernel_rfl
  focus kernel_rfl
  focus kernel_rfl
  focus kernel_rfl
  focus kernel_rfl
  focus kernel_rfl
  focus kernel_rfl
  focus (exact fun _ _ _ h => h)
  focus rfl
  focus ((intro wSw hSw; (have hSw := hSw.out); (try dsimp only at hSw); go_simp) <;> with_reducible rfl)
  focus assumption
  try simp only [Act.put, List.setIfInBounds_toArray, List.set_cons_zero, List.set_cons_succ]
  refine wpAnyHL_take (i := 3) (oi := ?_) (v := ?_) ?_ ?_ ?_ ?_ ?_ ?_ ?_ ?_ ?_ (Or.inl ⟨?_, ?_⟩) ?_ ?_
  rotate_left 2
  focus (simp only [List.getElem?_toArray, List.getElem?_cons_succ, List.getElem?_cons_zero]; exact rfl)
  focus kernel_rfl
  focus kernel_rfl
  focus kernel_rfl
  focus kernel_rfl
  focus kernel_rfl
  focus kernel_rfl
  focus kernel_rfl
  focus (exact fun _ _ _ h => h)
  focus rfl
  focus ((intro wSw hSw; (have hSw := hSw.out); (try dsimp only at hSw); go_simp) <;> with_reducible rfl)
  focus assumption
  try simp only [Act.put, List.setIfInBounds_toArray, List.set_cons_zero, List.set_cons_succ]
  refine wpAnyHL_one (i := 5) (o := ?_) (by kernel_rfl) (by kernel_rfl) ?_ ?_
  rotate_left 1
  focus (simp only [List.getElem?_toArray, List.getElem?_cons_succ, List.getElem?_cons_zero]; exact rfl)
  go_wp2_with (go_at_call 43; refine (HSZ.out _ (HK.out.trans hHeld.out)).mono ?_; rintro e W3 ⟨rfl, hk3⟩; have HK3 := Lib.hid hk3; clear hk3)
  try dsimp only [StepQ]
  refine ⟨?_, fun hHeld => ?_⟩
  focus (exact Lib.hid (hHeld.out.trans HK3.out))
  try simp only [Act.put, List.setIfInBounds_toArray, List.set_cons_zero, List.set_cons_succ]
  refine wpAnyHL_done (by kernel_rfl) ?_
  try simp only [List.drop_succ_cons, List.drop_zero]
  go_wp2
  go_ret
  exact ⟨rfl, HK.out.trans hHeld.out⟩
set_option maxRecDepth 100000 in
theorem virtual_any (S T R : Nat → Prop) (d : TxD) (iv ov : Value) (hf : Fits d) (w : World) (h : RTx S T R w iv ov d) (hS : ∀ g, S g → g < w.heap.size) :
    Calls Try.prog 14 #[.agg #[.int .i32 d.ver, iv, ov, .int .u32 d.lock]] w fun e w' => e = .returned (.int .i64 ((3 * (encB d false).length + (encB d true).length + 3) / 4)) ∧ Keeps w w' := by
  have HT := Lib.hid h; have HS := Lib.hid hS
  obtain ⟨ia, ic, rfl, -⟩ := h.ins.any
  obtain ⟨oa, oc, rfl, -⟩ := h.outs.any
  have hle := enc_le d true hf
  have hle2 := enc_le d false hf
  clear h hS
  have HSZ := Lib.hid (fun W (hk : Keeps w W) => weight_any S T R d _ _ hf W (HT.out.keeps hk) (fun g hg => Nat.lt_of_lt_of_le (HS.out g hg) hk.size))
  generalize encB d true = EB at *
  generalize encB d false = EC at *
  go_enter Try.func14, Try.ntmps14
  go_upto_region 1 with (fail)
  refine wp_rows1 (fun W0 hk hr1 hs1 => ?_)
  simp only at hr1
  obtain ⟨b0, b1, b2, b3⟩ := hr1.cell4
  have HK := Lib.hid hk
  clear hk hr1 hs1
  go_wp2_with (go_at_call 13; refine (HSZ.out _ HK.out).mono ?_; rintro e W2 ⟨rfl, hk2⟩; have HK2 := Lib.hid hk2; clear hk2)
  go_ret
  refine ⟨?_, HK.out.trans HK2.out⟩
  congr 2
end Go.Proofs.Ytcodpdpeklammaa
namespace Go.Proofs.Ytcodpdpeklammaa
set_option linter.unusedVariables false
set_option linter.unusedSimpArgs false
open Go Go.RowKit

def ptCells (h : List Int) (ix : Int) : List Value := h.map (Value.int .u8) ++ [.int .u32 ix]
theorem pointCells_pt (d : InD) : pointCells d = ptCells d.hash d.index := rfl
def ptLits (h : List Int) (ix : Int) : List Lit := h.map (Lit.int .u8) ++ [.int .u32 ix]
theorem mapM_all {α β : Type} (f : α → Option β) (g : α → β) : ∀ (L : List α), (∀ i ∈ L, f i = some (g i)) → L.mapM f = some (L.map g)
  | [], _ => rfl
  | a :: L, h => by
    rw [List.mapM_cons, h a (by simp), mapM_all f g L (fun i hi => h i (by simp [hi]))]
    rfl
theorem flat_single {α β : Type} (f : α → β) : ∀ (L : List α), (L.map (fun i => [f i])).flatten = L.map f
  | [] => rfl
  | a :: L => by simp [flat_single f L]
theorem map_range_getD (h : List Int) : (List.range h.length).map (fun i => Lit.int .u8 (h.getD i 0)) = h.map (Lit.int .u8) := by
  apply List.ext_getElem
  · simp
  · intro i h1 h2
    have h3 : i < h.length := by simpa using h2
    simp [List.getD, h3]
theorem wf_u8 {x : Int} (h : Byte x) : (Lit.int .u8 x).wf = true := by
  obtain ⟨h0, h1⟩ := h
  unfold Lit.wf
  rw [Bool.and_eq_true, decide_eq_true_eq, decide_eq_true_eq]
  exact ⟨show (0 : Int) ≤ x from h0, show x ≤ (255 : Int) by omega⟩
theorem wf_u32 {x : Int} (h : U32 x) : (Lit.int .u32 x).wf = true := by
  obtain ⟨h0, h1⟩ := h
  unfold Lit.wf
  rw [Bool.and_eq_true, decide_eq_true_eq, decide_eq_true_eq]
  exact ⟨show (0 : Int) ≤ x from h0, show x ≤ (4294967295 : Int) by omega⟩
theorem lits_int (D : Nat) (t : TypeId) (k : IntKind) (x : Int) (hu : Try.prog.underlying t = some (.int k)) (hw : (Lit.int k x).wf = true) : Try.prog.keyLits (D + 1) t [.int k x] = some [.int k x] := by
  unfold Program.keyLits
  rw [hu]
  simp only [hw, and_self, if_true]
theorem lits_hash (D : Nat) (h : List Int) (hl : h.length = 32) (hb : Bytes h) : Try.prog.keyLits (D + 2) 40 (h.map (Value.int .u8)) = some (h.map (Lit.int .u8)) := by
  have e1 : Try.prog.cellsOf 40 = 32 := by kernel_rfl
  have e2 : Try.prog.cellsOf 5 = 1 := by kernel_rfl
  have e4 : (List.range 32).mapM (fun i => Try.prog.keyLits (D + 1) 5 (((h.map (Value.int .u8)).drop (i * 1)).take 1)) = some ((List.range 32).map (fun i => [Lit.int .u8 (h.getD i 0)])) := by
    refine mapM_all _ _ _ (fun i hi => ?_)
    have hi' : i < h.length := by rw [hl]; exact List.mem_range.1 hi
    have e3 : ((h.map (Value.int .u8)).drop (i * 1)).take 1 = [.int .u8 (h.getD i 0)] := by
      rw [Nat.mul_one, List.drop_eq_getElem_cons (by simpa using hi')]
      simp [List.getD, hi']
    rw [e3]
    exact lits_int D _ _ _ Try.underlying5 (wf_u8 (hb.getD i))
  unfold Program.keyLits
  rw [Try.underlying40]
  simp only [e1, e2]
  rw [if_pos (by rw [List.length_map, hl]), e4, Option.map_some, flat_single, ← hl, map_range_getD]
theorem lits_point (D : Nat) (h : List Int) (ix : Int) (hl : h.length = 32) (hb : Bytes h) (hx : U32 ix) : Try.prog.keyLits (D + 3) 42 (ptCells h ix) = some (ptLits h ix) := by
  have e1 : Try.prog.cellsOf 42 = 33 := by kernel_rfl
  have e2 : Try.prog.cellsOf 40 = 32 := by kernel_rfl
  have e3 : Try.prog.cellsOf 24 = 1 := by kernel_rfl
  have d1 : ((ptCells h ix).drop 0).take 32 = h.map (Value.int .u8) := by
    unfold ptCells
    rw [List.drop_zero, List.take_append_of_le_length (by simp [hl]), List.take_of_length_le (by simp [hl])]
  have d2 : ((ptCells h ix).drop 32).take 1 = [.int .u32 ix] := by
    unfold ptCells
    rw [List.drop_append, List.drop_eq_nil_of_le (by simp [hl])]
    simp [hl]
  unfold Program.keyLits
  rw [Try.underlying42]
  simp only [e1]
  rw [if_pos ⟨by unfold ptCells; simp [hl], by kernel_rfl⟩]
  simp only [List.mapM_cons, List.mapM_nil, e2, e3, d1, d2, lits_hash (D) h hl hb, lits_int (D + 1) _ _ _ Try.underlying24 (wf_u32 hx)]
  simp [ptLits]
theorem ptLits_inj {h h' : List Int} {x x' : Int} (e : ptLits h x = ptLits h' x') (hl : h.length = h'.length) : h = h' ∧ x = x' := by
  unfold ptLits at e
  obtain ⟨e1, e2⟩ := List.append_inj e (by simp [hl])
  refine ⟨?_, by simpa using e2⟩
  have := congrArg (List.map (fun l => match l with | Lit.int _ n => n | _ => 0)) e1
  simpa [List.map_map, Function.comp_def] using this
theorem pt_formed (h : List Int) (ix : Int) (hl : h.length = 32) : (Value.agg (ptCells h ix).toArray).formed Try.prog 42 = true := by
  have e1 : Try.prog.cellsOf 42 = 33 := by kernel_rfl
  unfold Value.formed
  rw [Try.underlying42]
  simp [e1, ptCells, hl]
def keyL (h : List Int) (ix : Int) : Lit := .string (keyBytes (ptLits h ix))
theorem someTypes3 : ∃ D, Try.prog.types.size + 1 = D + 3 := ⟨Try.prog.types.size - 2, by have : 2 ≤ Try.prog.types.size := of_decide_eq_true (by kernel_rfl); omega⟩
theorem keyOf_point (h : List Int) (ix : Int) (hl : h.length = 32) (hb : Bytes h) (hx : U32 ix) : keyOf Try.prog 42 (.agg (ptCells h ix).toArray) = some (keyL h ix) := by
  have hk : Try.prog.keyType 42 = true := by kernel_rfl
  obtain ⟨D, hD⟩ := someTypes3
  have h1 := lits_point D h ix hl hb hx
  unfold keyOf
  rw [Try.underlying42]
  simp only [hk, pt_formed h ix hl, Bool.and_self, if_true, hD, Value.cells, h1, Option.map_some]
  rfl
theorem keyL_inj {h h' : List Int} {x x' : Int} (hl : h.length = 32) (hb : Bytes h) (hx : U32 x) (hl' : h'.length = 32) (hb' : Bytes h') (hx' : U32 x') (e : keyL h x = keyL h' x') : h = h' ∧ x = x' := by
  have e1 : keyBytes (ptLits h x) = keyBytes (ptLits h' x') := by
    unfold keyL at e
    exact Lit.string.inj e
  exact ptLits_inj (keyLits_inj (lits_point 0 h x hl hb hx) (lits_point 0 h' x' hl' hb' hx') e1) (by rw [hl, hl'])
theorem pt_equal (W : World) (h h' : List Int) (x x' : Int) (hl : h.length = 32) (hb : Bytes h) (hx : U32 x) (hl' : h'.length = 32) (hb' : Bytes h') (hx' : U32 x') :
    (Op.equalIn 10000 42 (.agg (ptCells h x).toArray) (.agg (ptCells h' x').toArray)).run Try.prog W = .ok (decide (h = h' ∧ x = x')) W := by
  have hd := run_equalIn_deep (P := Try.prog) 9996 4 42 (by kernel_rfl)
  obtain ⟨r, hr, hiff⟩ := hd W 3 3 (.agg (ptCells h x).toArray) (.agg (ptCells h' x').toArray) _ _ (pt_formed h x hl) (pt_formed h' x' hl') (lits_point 0 h x hl hb hx) (lits_point 0 h' x' hl' hb' hx')
  suffices key : r = decide (h = h' ∧ x = x') by rw [hr, key]
  clear hr hd
  by_cases he : h = h' ∧ x = x'
  · rw [decide_eq_true he]; exact hiff.2 (by rw [he.1, he.2])
  · rw [decide_eq_false he]
    cases r
    · rfl
    · exact absurd (ptLits_inj (hiff.1 rfl) (by rw [hl, hl'])) he
theorem hash_equal (W : World) (h h' : List Int) (hl : h.length = 32) (hb : Bytes h) (hl' : h'.length = 32) (hb' : Bytes h') :
    (Op.equalIn 10000 40 (.agg (h.map (Value.int .u8)).toArray) (.agg (h'.map (Value.int .u8)).toArray)).run Try.prog W = .ok (decide (h = h')) W := by
  have e1 : Try.prog.cellsOf 40 = 32 := by kernel_rfl
  have fm : ∀ (l : List Int), l.length = 32 → (Value.agg (l.map (Value.int .u8)).toArray).formed Try.prog 40 = true := fun l hl => by
    unfold Value.formed
    rw [Try.underlying40]
    simp [e1, hl]
  have hd := run_equalIn_deep (P := Try.prog) 9996 4 40 (by kernel_rfl)
  obtain ⟨r, hr, hiff⟩ := hd W 2 2 _ _ _ _ (fm h hl) (fm h' hl') (lits_hash 0 h hl hb) (lits_hash 0 h' hl' hb')
  suffices key : r = decide (h = h') by rw [hr, key]
  clear hr hd
  have inj : h.map (Lit.int .u8) = h'.map (Lit.int .u8) → h = h' := fun e => by
    have := congrArg (List.map (fun l => match l with | Lit.int _ n => n | _ => 0)) e
    simpa [List.map_map, Function.comp_def] using this
  by_cases he : h = h'
  · rw [decide_eq_true he]; exact hiff.2 (by rw [he])
  · rw [decide_eq_false he]
    cases r
    · rfl
    · exact absurd (inj (hiff.1 rfl)) he
end Go.Proofs.Ytcodpdpeklammaa
