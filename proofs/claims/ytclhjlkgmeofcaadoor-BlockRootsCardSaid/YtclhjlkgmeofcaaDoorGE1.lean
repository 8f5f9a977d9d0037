/- block.Merkle: the region of its inner loop's body that draws its order. No condition. -/
import Derived.Test.YtclhjlkgmeofcaaDoorGD9
import Derived.Test.YtclhjlkgmeofcaaDoorGE0
import Derived.Test.YtclhjlkgmeofcaaDoorGC0
namespace Go.Proofs.YtclhjlkgmeofcaaDoor
set_option linter.unusedVariables false
set_option linter.unusedSimpArgs false
open Go Go.RowKit

/-- the region's i-th operation, unguarded -/
def IsOp (ops : Array Oper) (i : Nat) (op : Op) (dst : Option Tmp) : Prop := ∃ o, ops[i]? = some o ∧ o.op = op ∧ o.dst = dst ∧ o.guard = none
theorem ev_tmp {a : Act} {i : Nat} {v : Value} (h : a.tmps[i]? = some v) : a.eval (.tmp i) = v := by
  show a.tmps.getD i undef = v
  rw [Array.getD_eq_getD_getElem?, h]; rfl
theorem put_same {a : Act} {d : Nat} {v : Value} (h : d < a.tmps.size) : (a.put (some d) v).tmps[d]? = some v := by rw [tmps_put, if_pos rfl, if_pos h]
theorem put_other {a : Act} {d j : Nat} {v : Value} (h : d ≠ j) : (a.put (some d) v).tmps[j]? = a.tmps[j]? := by rw [tmps_put, if_neg h]
theorem put_size {a : Act} {d : Option Tmp} {v : Value} : (a.put d v).tmps.size = a.tmps.size := by cases d <;> simp [Act.put]
theorem put_defers {a : Act} {d : Option Tmp} {v : Value} : (a.put d v).defers = a.defers := by cases d <;> simp [Act.put]
theorem agg_hs (w : World) : (isAgg 22).run Tryd.prog w = .ok false w := by
  unfold isAgg
  rw [Sem.run_bind, run_underlying Tryd.underlying22 w]
  rfl
theorem run_load_hs {w : World} {o : Oper} {a : Act} {x : Operand} (ho : o.op = .load 22 x) {q : Nat} {v : Value} (hx : a.eval x = .pointer (some ⟨q, 0, none⟩)) (hc : w.cell? ⟨q, 0, none⟩ = some v) : (execOp a.eval o).run Tryd.prog w = .ok (.value v) w := by
  unfold execOp
  simp only [ho, hx, Instr.loadAt, Instr.sureAddr, Sem.run_bind, Sem.run_pure, Result.andThen_ok]
  have h : (loadVar 22 ⟨q, 0, none⟩).run Tryd.prog w = .ok v w := by
    simp [loadVar, Sem.run_bind, agg_hs, hc, go_sem]
  rw [h]; rfl
theorem sz_hs : (Tryd.prog.info? 22).map (·.size) = some 1 := by kernel_rfl
theorem run_store_hs {w : World} {o : Oper} {a : Act} {x y : Operand} (ho : o.op = .store 22 x y) {q : Nat} {v u : Value} (hx : a.eval x = .pointer (some ⟨q, 0, none⟩)) (hy : a.eval y = u) (hc : w.cell? ⟨q, 0, none⟩ = some v) (hf : w.frozen? ⟨q, 0, none⟩ = false) (hu : u.oneCell' = true) :
    (execOp a.eval o).run Tryd.prog w = .ok .skip (w.setCell ⟨q, 0, none⟩ u) := by
  unfold execOp
  simp only [ho, hx, hy, Instr.storeAt, Instr.sureAddr, Sem.run_bind, Sem.run_pure, Result.andThen_ok]
  have hst := run_storeCells_cells (P := Tryd.prog) q 0 [u] 0 w (fun j hj => by
      obtain rfl : j = 0 := by simpa using hj
      rw [hc]; rfl) (fun j hj => by
      obtain rfl : j = 0 := by simpa using hj
      exact hf) (fun y hy => by rw [List.mem_singleton.1 hy]; exact hu)
  have hcs : u.cells = #[u] := by cases u <;> simp_all [Value.oneCell', Value.cells]
  have h : (storeVar 22 ⟨q, 0, none⟩ u).run Tryd.prog w = .ok () (w.setCell ⟨q, 0, none⟩ u) := by
    cases hq : Tryd.prog.info? 22 with
    | none => have := sz_hs; rw [hq] at this; cases this
    | some i =>
      have hi : i.size = 1 := by have := sz_hs; rw [hq] at this; simpa using this
      simp [storeVar, hcs, sizeOf, typeInfo, hq, hi, hst, World.setCells]
  rw [h]; rfl
theorem hs_one {w : World} {size n : Nat} {v : Value} {xs : List Value} (h : Buf w size v n xs) : v.oneCell' = true := by
  obtain ⟨a, cap, rfl, _⟩ := h.any
  rfl
theorem r11_round {l n id : Nat} {ops : Array Oper} {Q : Exit → Act → World → Prop} {a : Act} {wr W2 : World} {q s : Nat} {v wv : Value} {L : List (List Int)} {zs : List Int}
    (hsz : ops.size = 5) (o0 : IsOp ops 0 (.load 22 (.tmp 4)) (some 30)) (o1 : IsOp ops 1 (.call { callee := .value (.func 31), args := #[.tmp 6], argTypes := #[76] }) (some 31))
    (o2 : IsOp ops 2 (.buildSlice 22 1 #[(0, .tmp 31)]) (some 32)) (o3 : IsOp ops 3 (.call { callee := .builtin .append, args := #[.tmp 30, .tmp 32], argTypes := #[22, 22] }) (some 33))
    (o4 : IsOp ops 4 (.store 22 (.tmp 4) (.tmp 33)) none)
    (r00 : Region.ready .any ops #[false, false, false, false, false] = [0, 1]) (r10 : Region.ready .any ops #[true, false, false, false, false] = [1]) (r01 : Region.ready .any ops #[false, true, false, false, false] = [0, 2])
    (r11 : Region.ready .any ops #[true, true, false, false, false] = [2]) (r012 : Region.ready .any ops #[false, true, true, false, false] = [0]) (r3 : Region.ready .any ops #[true, true, true, false, false] = [3])
    (r4 : Region.ready .any ops #[true, true, true, true, false] = [4]) (r5 : Region.ready .any ops #[true, true, true, true, true] = [])
    (hmix : Tryd.prog.follows .mixedOrders = true)
    (h4 : a.tmps[4]? = some (.pointer (some ⟨q, 0, none⟩))) (h6 : a.tmps[6]? = some (.pointer (some ⟨s, 0, none⟩))) (hts : a.tmps.size = 38)
    (hm : MI wr W2 q v L) (hs : SumAt W2 s 0 wv zs) (hzl : zs.length < 576460752303423488) (hL : L.length < 4398046511104)
    (hQ : ∀ v' a' W', MI wr W' q v' (L ++ [dsha zs]) → Chg (fun k => k = q ∨ v.ownBlock = some k) W2 W' → a'.defers = a.defers → Q .normal a' W') :
    (Code.region id ops true).wpIn (Fence.wide.inRound l) n Tryd.prog Q a W2 := by
  obtain ⟨p0, e0, f0, d0, g0⟩ := o0
  obtain ⟨p1, e1, f1, d1, g1⟩ := o1
  obtain ⟨p2, e2, f2, d2, g2⟩ := o2
  obtain ⟨p3, e3, f3, d3, g3⟩ := o3
  obtain ⟨p4, e4, f4, d4, g4⟩ := o4
  have hH := dsha_length zs
  have hB := dsha_bytes zs
  have htw : ∀ W, Keeps W2 W → Calls Tryd.prog 31 #[.pointer (some ⟨s, 0, none⟩)] W fun e w' => e = .returned (.agg ((dsha zs).map (Value.int .u8)).toArray) ∧ Keeps W w' := fun W hk => twice_any s 0 wv zs W (hs.keeps hk) hzl
  generalize dsha zs = H at *
  -- the first operation
  have op0 : ∀ (K : Act → World → Prop) (a' : Act) (W' : World), Keeps W2 W' → a'.tmps[4]? = some (.pointer (some ⟨q, 0, none⟩)) → K (a'.put (some 30) v) W' → wpOpIn (Fence.wide.inRound l) n Tryd.prog ops Q 0 K a' W' := by
    intro K a' W' hk ha h
    refine opIn_value e0 g0 (fun c e => by rw [f0] at e; cases e) (run_load_hs f0 (ev_tmp ha) (by have := ((hm.step hk).cell 0 _ rfl).1; simpa using this)) ?_
    rw [d0]; exact h
  have op1 : ∀ (K : Act → World → Prop) (a' : Act) (W' : World), Keeps W2 W' → a'.tmps[6]? = some (.pointer (some ⟨s, 0, none⟩)) → (∀ W'', Keeps W' W'' → K (a'.put (some 31) (.agg (H.map (Value.int .u8)).toArray)) W'') → wpOpIn (Fence.wide.inRound l) n Tryd.prog ops Q 1 K a' W' := by
    intro K a' W' hk ha h
    refine opIn_enter e1 g1 (fun c e => by rw [f1] at e; cases e) (f := 31) (args := #[.pointer (some ⟨s, 0, none⟩)]) ?_ ((htw W' hk).mono ?_)
    · unfold execOp
      simp only [f1]
      go_simp
    · rintro e w' ⟨rfl, hk'⟩
      exact ⟨_, rfl, by rw [d1]; exact h _ hk'⟩
  have op2 : ∀ (K : Act → World → Prop) (a' : Act) (W' : World), a'.tmps[31]? = some (.agg (H.map (Value.int .u8)).toArray) → (∀ W'' c, Keeps W' W'' → Row W'' W'.heap.size 0 (H.map (Value.int .u8)) → K (a'.put (some 32) (.slice (some ⟨W'.heap.size, 0, none⟩) 1 c)) W'') → wpOpIn (Fence.wide.inRound l) n Tryd.prog ops Q 2 K a' W' := by
    intro K a' W' ha h
    have hev := ev_tmp ha
    refine opIn_value e2 g2 (fun c e => by rw [f2] at e; cases e) (v := .slice (some ⟨W'.heap.size, 0, none⟩) 1 1) (w' := W'.alloc (.cells (H.map (Value.int .u8)).toArray 24)) ?_ ?_
    · unfold execOp
      simp only [f2, hev, List.map_toArray, List.map_cons, List.map_nil, Array.map_map]
      go_simp
      congr 2
      have hf := fold_set 0 (H.map (Value.int .u8)) 0 [] z32 [] (by rw [List.length_map, hH]; rfl) rfl
      simp only [Nat.zero_add, List.nil_append, List.append_nil, z32] at hf
      exact hf
    · rw [d2]; exact h _ _ (keeps_alloc (Keeps.refl _) _) (Row.new _ _ _ rfl)
  have op34 : ∀ (a' : Act) (W' : World) (x c : Nat), Keeps W2 W' → a'.tmps.size = 38 → a'.defers = a.defers → a'.tmps[4]? = some (.pointer (some ⟨q, 0, none⟩)) → a'.tmps[30]? = some v → a'.tmps[32]? = some (.slice (some ⟨x, 0, none⟩) 1 c) → Row W' x 0 (H.map (Value.int .u8)) →
      wpAnyIn (Fence.wide.inRound l) n Tryd.prog .any ops Q 2 #[true, true, true, false, false] a' W' := by
    intro a' W' x c hk ht hdf ha4 ha30 ha32 hrx
    refine wpAnyIn_all r3 (by simp) (fun i hi => ?_)
    obtain rfl : i = 3 := by simpa using hi
    obtain ⟨i0, z0, hi0, hz0, hz1, hz2, hz3⟩ := info2_any hash_info hash_zero
    obtain ⟨v', w', hr, hb, hc, hsn, -⟩ := run_append_buf (P := Tryd.prog) W' 22 22 p3.type 24 i0 z0 32 32 Tryd.underlying22 hi0 hz0 hz1 hz2 hz3 (by decide) v L.length (hCells L) (hm.step hk).buf (.slice (some ⟨x, 0, none⟩) 1 c) 1 (H.map (Value.int .u8))
      (Src.row Tryd.underlying22 (by simp [hH]) hrx (int_oneCell H)) (by unfold maxLen; omega) (by omega)
    refine opIn_value e3 g3 (fun c e => by rw [f3] at e; cases e) (v := v') (w' := w') ?_ ?_
    · have h1 := ev_tmp ha30
      have h2 := ev_tmp ha32
      simp [execOp, f3, resolve, invoke, builtin, h1, h2, hr, Result.andThen]
    · rw [d3]
      have hmp := (hm.step hk).put (Keeps.refl _) hH hB hb hc hsn
      have hqc : w'.cell? ⟨q, 0, none⟩ = some v ∧ w'.frozen? ⟨q, 0, none⟩ = false := by
        have := ((hm.step hk).cell.chg hc (fun e => by have := (hm.step hk).new q e; omega)) 0 _ rfl
        simpa using this
      refine wpAnyIn_all (listed := #[true, true, true, true, false]) r4 (by simp) (fun i hi => ?_)
      obtain rfl : i = 4 := by simpa using hi
      refine opIn_skip e4 g4 (fun c e => by rw [f4] at e; cases e) (w' := w'.setCell ⟨q, 0, none⟩ v') (run_store_hs f4 (ev_tmp (by rw [put_other (by omega)]; exact ha4)) (ev_tmp (put_same (by omega))) hqc.1 hqc.2 (hs_one hb)) ?_
      rw [d4]
      refine wpAnyIn_done (listed := #[true, true, true, true, true]) r5 ?_ _
      refine hQ v' _ _ hmp ?_ (by rw [put_defers, put_defers]; exact hdf)
      refine (hk.chg _).trans ((hc.mono (fun k _ e => .inr e)).trans (Chg.setCell (Chg.refl _ _) (.inr (.inl rfl)) _))
  refine wpIn_region_any hmix ?_
  rw [hsz]
  have hkd : Keeps W2 { W2 with drawn := W2.drawn + 1 } := keeps_drew1 (Keeps.refl W2)
  generalize ({ W2 with drawn := W2.drawn + 1 } : World) = WD at *
  refine wpAnyIn_all (listed := #[false, false, false, false, false]) r00 (by simp) (fun i hi => ?_)
  rcases (by simpa using hi : i = 0 ∨ i = 1) with rfl | rfl
  · refine op0 _ a WD hkd h4 ?_
    refine wpAnyIn_all (listed := #[true, false, false, false, false]) r10 (by simp) (fun i hi => ?_)
    obtain rfl : i = 1 := by simpa using hi
    refine op1 _ _ WD hkd (by rw [put_other (by omega)]; exact h6) (fun W3 hk3 => ?_)
    refine wpAnyIn_all (listed := #[true, true, false, false, false]) r11 (by simp) (fun i hi => ?_)
    obtain rfl : i = 2 := by simpa using hi
    refine op2 _ _ W3 (put_same (by rw [put_size]; omega)) (fun W4 c hk4 hr4 => ?_)
    refine op34 _ W4 W3.heap.size c (hkd.trans (hk3.trans hk4)) (by simp only [put_size]; exact hts) (by simp only [put_defers]) ?_ ?_ (put_same (by simp only [put_size]; omega)) hr4
    · rw [put_other (by omega), put_other (by omega), put_other (by omega)]; exact h4
    · rw [put_other (by omega), put_other (by omega)]; exact put_same (by omega)
  · refine op1 _ a WD hkd h6 (fun W3 hk3 => ?_)
    refine wpAnyIn_all (listed := #[false, true, false, false, false]) r01 (by simp) (fun i hi => ?_)
    rcases (by simpa using hi : i = 0 ∨ i = 2) with rfl | rfl
    · refine op0 _ _ W3 (hkd.trans hk3) (by rw [put_other (by omega)]; exact h4) ?_
      refine wpAnyIn_all (listed := #[true, true, false, false, false]) r11 (by simp) (fun i hi => ?_)
      obtain rfl : i = 2 := by simpa using hi
      refine op2 _ _ W3 (by rw [put_other (by omega)]; exact put_same (by omega)) (fun W4 c hk4 hr4 => ?_)
      refine op34 _ W4 W3.heap.size c (hkd.trans (hk3.trans hk4)) (by simp only [put_size]; exact hts) (by simp only [put_defers]) ?_ ?_ (put_same (by simp only [put_size]; omega)) hr4
      · rw [put_other (by omega), put_other (by omega), put_other (by omega)]; exact h4
      · rw [put_other (by omega)]; exact put_same (by rw [put_size]; omega)
    · refine op2 _ _ W3 (put_same (by omega)) (fun W4 c hk4 hr4 => ?_)
      refine wpAnyIn_all (listed := #[false, true, true, false, false]) r012 (by simp) (fun i hi => ?_)
      obtain rfl : i = 0 := by simpa using hi
      refine op0 _ _ W4 (hkd.trans (hk3.trans hk4)) (by rw [put_other (by omega), put_other (by omega)]; exact h4) ?_
      refine op34 _ W4 W3.heap.size c (hkd.trans (hk3.trans hk4)) (by simp only [put_size]; exact hts) (by simp only [put_defers]) ?_ (put_same (by simp only [put_size]; omega)) ?_ hr4
      · rw [put_other (by omega), put_other (by omega), put_other (by omega)]; exact h4
      · rw [put_other (by omega)]; exact put_same (by rw [put_size]; omega)
end Go.Proofs.YtclhjlkgmeofcaaDoor
