/- Size, Weight, Virtual; how many bytes a cut transaction has. | tx.Id, tx.WitnessId, the reference's Id and Weight. | strongboxref10.Merkle; slices.Clone at digests; both Root. -/
import Derived.Test.YtclhjlkgmeofcaaDoorGD5
import Derived.Test.YtclhjlkgmeofcaaDoorGC8
import Derived.Test.YtclhjlkgmeofcaaDoorGC0
import Derived.Test.YtclhjlkgmeofcaaDoorGC9
import Derived.Test.YtclhjlkgmeofcaaDoorGD3
import Derived.Test.YtclhjlkgmeofcaaDoorGD1
namespace Go.Proofs.YtclhjlkgmeofcaaDoor
set_option linter.unusedVariables false
set_option linter.unusedSimpArgs false
open Go Go.RowKit

theorem fits_few (d : TxD) (h : d.ins.all (fun i => i.hash.length == 32) = true) : Fits (fewD 4 200 d) := by
  have ht : ∀ l : List Int, l.length ≤ 600 → (textB l).length ≤ 609 := fun l hl => by
    have := sizeB_len (l.length : Int)
    unfold textB; rw [List.length_append]; omega
  have h1 : ((fewD 4 200 d).ins.flatMap inB).length ≤ 10 * 649 := by
    refine Nat.le_trans (flat_le inB 649 _ (fun x hx => ?_)) (Nat.mul_le_mul_right _ (by simp [fewD]; omega))
    obtain ⟨y, hy, rfl⟩ := List.mem_map.1 hx
    have h32 : y.hash.length = 32 := by have := List.all_eq_true.1 h y (List.mem_of_mem_take hy); simpa using this
    have := ht (y.script.take 200) (by simp; omega)
    unfold inB trimIn
    simp only [List.length_append, leB_length]
    omega
  have h2 : ((fewD 4 200 d).outs.flatMap outB).length ≤ 10 * 617 := by
    refine Nat.le_trans (flat_le outB 617 _ (fun x hx => ?_)) (Nat.mul_le_mul_right _ (by simp [fewD]; omega))
    obtain ⟨y, hy, rfl⟩ := List.mem_map.1 hx
    have := ht (y.script.take 200) (by simp; omega)
    unfold outB trimOut
    simp only [List.length_append, leB_length]
    omega
  have h3 : ((fewD 4 200 d).ins.flatMap witB).length ≤ 10 * 6099 := by
    refine Nat.le_trans (flat_le witB 6099 _ (fun x hx => ?_)) (Nat.mul_le_mul_right _ (by simp [fewD]; omega))
    obtain ⟨y, hy, rfl⟩ := List.mem_map.1 hx
    have hs := sizeB_len ((trimIn 4 200 y).wit.length : Int)
    have hw : ((trimIn 4 200 y).wit.flatMap textB).length ≤ 10 * 609 := by
      refine Nat.le_trans (flat_le textB 609 _ (fun z hz => ?_)) (Nat.mul_le_mul_right _ (by simp [trimIn]; omega))
      obtain ⟨q, hq, rfl⟩ := List.mem_map.1 hz
      exact ht _ (by simp; omega)
    unfold witB
    rw [List.length_append]
    omega
  have s1 := sizeB_len ((fewD 4 200 d).ins.length : Int)
  have s2 := sizeB_len ((fewD 4 200 d).outs.length : Int)
  unfold Fits insB outsB
  rw [List.length_append, List.length_append]
  omega
theorem enc_le (d : TxD) (wit : Bool) (h : Fits d) : (encB d wit).length ≤ 1000000000010 := by
  unfold Fits at h
  unfold encB
  simp only [List.length_append, leB_length]
  by_cases hc : (wit && witnessedD d) = true
  · rw [if_pos hc, if_pos hc]; simp only [List.length_cons, List.length_nil]; omega
  · rw [if_neg hc, if_neg hc]; simp only [List.length_nil]; omega
end Go.Proofs.YtclhjlkgmeofcaaDoor
namespace Go.Proofs.YtclhjlkgmeofcaaDoor
set_option linter.unusedVariables false
set_option linter.unusedSimpArgs false
open Go Go.RowKit

theorem Bytes.app {a b : List Int} (ha : Bytes a) (hb : Bytes b) : Bytes (a ++ b) := fun x hx => by
  rcases List.mem_append.1 hx with h | h
  · exact ha x h
  · exact hb x h
theorem Bytes.flat {α : Type} {f : α → List Int} {l : List α} (h : ∀ x ∈ l, Bytes (f x)) : Bytes (l.flatMap f) := fun x hx => by
  obtain ⟨y, hy, hxy⟩ := List.mem_flatMap.1 hx
  exact h y hy x hxy
theorem sizeB_bytes (n : Int) (h : 0 ≤ n) : Bytes (sizeB n) := by
  unfold sizeB
  have hc : ∀ (a : Int) (l : List Int), Byte a → Bytes l → Bytes (a :: l) := fun a l h1 h2 x hx => by
    rcases List.mem_cons.1 hx with rfl | hx
    · exact h1
    · exact h2 x hx
  split
  · exact hc _ _ ⟨h, by omega⟩ (fun x hx => by cases hx)
  · split
    · exact hc _ _ ⟨by omega, by omega⟩ (leB_bytes _ _)
    · split
      · exact hc _ _ ⟨by omega, by omega⟩ (leB_bytes _ _)
      · exact hc _ _ ⟨by omega, by omega⟩ (leB_bytes _ _)
theorem textB_bytes {l : List Int} (h : Bytes l) : Bytes (textB l) := Bytes.app (sizeB_bytes _ (by omega)) h
theorem RInsX.all {S T R : Nat → Prop} {w : World} {v : Value} {l : List InD} (h : RInsX S T R w v l) : ∀ x ∈ l, x.Ok ∧ Bytes x.script ∧ ∀ u ∈ x.wit, Bytes u := by
  obtain ⟨cs, ps, h⟩ := h
  intro x hx
  obtain ⟨k, hk, e⟩ := List.getElem_of_mem hx
  have hp : ps[k]? = some (ps[k]'(by rw [h.plen]; exact hk)) := List.getElem?_eq_getElem _
  have h1 := (h.each k _ x hp (by rw [List.getElem?_eq_getElem hk, e])).1
  refine ⟨h1.ok, h1.script.bytes, fun u hu => ?_⟩
  obtain ⟨vs, hw⟩ := h1.wit
  obtain ⟨j, hj, e2⟩ := List.getElem_of_mem hu
  have hv : vs[j]? = some (vs[j]'(by rw [hw.len]; exact hj)) := List.getElem?_eq_getElem _
  exact (hw.each j _ u hv (by rw [List.getElem?_eq_getElem hj, e2])).bytes
theorem ROutsX.all {S R : Nat → Prop} {w : World} {v : Value} {l : List OutD} (h : ROutsX S R w v l) : ∀ x ∈ l, Bytes x.script := by
  obtain ⟨cs, ps, h⟩ := h
  intro x hx
  obtain ⟨k, hk, e⟩ := List.getElem_of_mem hx
  have hp : ps[k]? = some (ps[k]'(by rw [h.plen]; exact hk)) := List.getElem?_eq_getElem _
  exact (h.each k _ x hp (by rw [List.getElem?_eq_getElem hk, e])).1.bytes
theorem RTx.bytes {S T R : Nat → Prop} {w : World} {iv ov : Value} {d : TxD} (h : RTx S T R w iv ov d) (wit : Bool) : Bytes (encB d wit) := by
  have hI := h.ins.all
  have hO := h.outs.all
  have h1 : Bytes (insB d.ins) := Bytes.app (sizeB_bytes _ (by omega)) (Bytes.flat fun x hx => Bytes.app (Bytes.app (Bytes.app (hI x hx).1.hash (leB_bytes _ _)) (textB_bytes (hI x hx).2.1)) (leB_bytes _ _))
  have h2 : Bytes (outsB d.outs) := Bytes.app (sizeB_bytes _ (by omega)) (Bytes.flat fun x hx => Bytes.app (leB_bytes _ _) (textB_bytes (hO x hx)))
  have h3 : Bytes (d.ins.flatMap witB) := Bytes.flat fun x hx => Bytes.app (sizeB_bytes _ (by omega)) (Bytes.flat fun u hu => textB_bytes ((hI x hx).2.2 u hu))
  have hm : Bytes (if (wit && witnessedD d) = true then [0, 1] else []) := by
    split
    · intro x hx; simp at hx; rcases hx with rfl | rfl <;> exact ⟨by omega, by omega⟩
    · intro x hx; cases hx
  have hw : Bytes (if (wit && witnessedD d) = true then d.ins.flatMap witB else []) := by
    split
    · exact h3
    · intro x hx; cases hx
  unfold encB
  exact Bytes.app (Bytes.app (Bytes.app (Bytes.app (Bytes.app (leB_bytes _ _) hm) h1) h2) hw) (leB_bytes _ _)
/-- the name of what d's bytes are -/
def idD (d : TxD) (wit : Bool) : List Int := sha256 (sha256 (encB d wit))
set_option maxRecDepth 100000 in
set_option maxHeartbeats 1000000 in
theorem id_any (S T R : Nat → Prop) (d : TxD) (iv ov : Value) (hf : Fits d) (w : World) (h : RTx S T R w iv ov d) (hS : ∀ g, S g → g < w.heap.size) :
    Calls Tryd.prog 44 #[.agg #[.int .i32 d.ver, iv, ov, .int .u32 d.lock]] w fun e w' => e = .returned (.agg ((idD d false).map (Value.int .u8)).toArray) ∧ Keeps w w' := by
  have HT := Lib.hid h; have HS := Lib.hid hS
  obtain ⟨ia, ic, rfl, -⟩ := h.ins.any
  obtain ⟨oa, oc, rfl, -⟩ := h.outs.any
  have hle := enc_le d false hf
  have HBY := Lib.hid (h.bytes false)
  clear h hS
  have HENC := Lib.hid (fun W (hk : Keeps w W) => enc_any S T R d _ _ false hf W (HT.out.keeps hk) (fun g hg => Nat.lt_of_lt_of_le (HS.out g hg) hk.size))
  have Z32 : Hid ((Tryd.prog.info? 24).map (·.size) = some ((idD d false).map (Value.int .u8)).length) := by
    unfold idD; rw [List.length_map, sha_length]; exact Lib.hid sz_hash
  have HDB := Lib.hid (fun (W : World) (v : Value) (n : Nat) (hr : Rd W 1 v n ((encB d false).map (Value.int .u8))) (hn : n ≤ 35184372088832) => double_any v n (encB d false) W hr HBY.out hn)
  have hidl : (idD d false).length = 32 := by unfold idD; exact sha_length _
  have hide : sha256 (sha256 (encB d false)) = idD d false := rfl
  rw [hide] at HDB
  generalize idD d false = ID at *
  generalize encB d false = EB at *
  go_enter Tryd.func44, Tryd.ntmps44
  go_upto_region 1 with (fail)
  refine wp_rows2 (fun W0 hk hr1 hr2 hs => ?_)
  have hr2 : Row W0 (w.heap.size + 1) 0 (List.replicate 32 (Value.int .u8 0)) := hr2
  simp only at hr1
  obtain ⟨b0, b1, b2, b3⟩ := hr1.cell4
  have HK := Lib.hid hk; have HR2 := Lib.hid hr2
  clear hk hr1 hr2 hs
  go_wp2_with (first | (go_at_call 76; refine (HENC.out _ HK.out).mono ?_; rintro e W2 ⟨v2, rfl, hO2⟩; obtain ⟨a2, c2, rfl⟩ := hO2.any; have HO2 := Lib.hid hO2; clear hO2) | (go_at_call 75; refine (HDB.out _ _ _ HO2.out.rd (by omega)).mono ?_; rintro e W3 ⟨rfl, hk3⟩; have HK3 := Lib.hid hk3; clear hk3) | (refine wpList_store_row rfl 24 (.tmp 2) (.tmp 5) rfl (w.heap.size + 1) 0 rfl _ _ rfl ((HR2.out.keeps HO2.out.keeps).keeps HK3.out) (by simp [hidl]) Z32.out (int_oneCell _) ?_; intro W4 hr4 hc4; have HR4 := Lib.hid hr4; have HC4 := Lib.hid hc4; clear hr4 hc4))
  exact bodyPost_ret (v := .agg (ID.map (Value.int .u8)).toArray) (results_cell_at (p := 2) (ty := 24) rfl _ _ (w.heap.size + 1) 0 _ _ rfl HR4.out Tryd.underlying24 rfl Z32.out) rfl ⟨rfl, keeps_chg ((HK.out.trans HO2.out.keeps).trans HK3.out) HC4.out (by omega)⟩
set_option maxRecDepth 100000 in
set_option maxHeartbeats 1000000 in
theorem wid_any (S T R : Nat → Prop) (d : TxD) (iv ov : Value) (hf : Fits d) (w : World) (h : RTx S T R w iv ov d) (hS : ∀ g, S g → g < w.heap.size) :
    Calls Tryd.prog 33 #[.agg #[.int .i32 d.ver, iv, ov, .int .u32 d.lock]] w fun e w' => e = .returned (.agg ((idD d true).map (Value.int .u8)).toArray) ∧ Keeps w w' := by
  have HT := Lib.hid h; have HS := Lib.hid hS
  obtain ⟨ia, ic, rfl, -⟩ := h.ins.any
  obtain ⟨oa, oc, rfl, -⟩ := h.outs.any
  have hle := enc_le d true hf
  have HBY := Lib.hid (h.bytes true)
  clear h hS
  have HENC := Lib.hid (fun W (hk : Keeps w W) => enc_any S T R d _ _ true hf W (HT.out.keeps hk) (fun g hg => Nat.lt_of_lt_of_le (HS.out g hg) hk.size))
  have Z32 : Hid ((Tryd.prog.info? 24).map (·.size) = some ((idD d true).map (Value.int .u8)).length) := by
    unfold idD; rw [List.length_map, sha_length]; exact Lib.hid sz_hash
  have HDB := Lib.hid (fun (W : World) (v : Value) (n : Nat) (hr : Rd W 1 v n ((encB d true).map (Value.int .u8))) (hn : n ≤ 35184372088832) => double_any v n (encB d true) W hr HBY.out hn)
  have hidl : (idD d true).length = 32 := by unfold idD; exact sha_length _
  have hide : sha256 (sha256 (encB d true)) = idD d true := rfl
  rw [hide] at HDB
  generalize idD d true = ID at *
  generalize encB d true = EB at *
  go_enter Tryd.func33, Tryd.ntmps33
  go_upto_region 1 with (fail)
  refine wp_rows2 (fun W0 hk hr1 hr2 hs => ?_)
  have hr2 : Row W0 (w.heap.size + 1) 0 (List.replicate 32 (Value.int .u8 0)) := hr2
  simp only at hr1
  obtain ⟨b0, b1, b2, b3⟩ := hr1.cell4
  have HK := Lib.hid hk; have HR2 := Lib.hid hr2
  clear hk hr1 hr2 hs
  go_wp2_with (first | (go_at_call 76; refine (HENC.out _ HK.out).mono ?_; rintro e W2 ⟨v2, rfl, hO2⟩; obtain ⟨a2, c2, rfl⟩ := hO2.any; have HO2 := Lib.hid hO2; clear hO2) | (go_at_call 75; refine (HDB.out _ _ _ HO2.out.rd (by omega)).mono ?_; rintro e W3 ⟨rfl, hk3⟩; have HK3 := Lib.hid hk3; clear hk3) | (refine wpList_store_row rfl 24 (.tmp 2) (.tmp 5) rfl (w.heap.size + 1) 0 rfl _ _ rfl ((HR2.out.keeps HO2.out.keeps).keeps HK3.out) (by simp [hidl]) Z32.out (int_oneCell _) ?_; intro W4 hr4 hc4; have HR4 := Lib.hid hr4; have HC4 := Lib.hid hc4; clear hr4 hc4))
  exact bodyPost_ret (v := .agg (ID.map (Value.int .u8)).toArray) (results_cell_at (p := 2) (ty := 24) rfl _ _ (w.heap.size + 1) 0 _ _ rfl HR4.out Tryd.underlying24 rfl Z32.out) rfl ⟨rfl, keeps_chg ((HK.out.trans HO2.out.keeps).trans HK3.out) HC4.out (by omega)⟩
set_option maxRecDepth 100000 in
set_option maxHeartbeats 1000000 in
theorem rid_any (S T R : Nat → Prop) (d : TxD) (iv ov : Value) (hf : Fits d) (w : World) (h : RTx S T R w iv ov d) :
    Calls Tryd.prog 48 #[.agg #[.int .i32 d.ver, iv, ov, .int .u32 d.lock]] w fun e w' => e = .returned (.agg ((idD d false).map (Value.int .u8)).toArray) ∧ Keeps w w' := by
  have HT := Lib.hid h
  obtain ⟨ia, ic, rfl, -⟩ := h.ins.any
  obtain ⟨oa, oc, rfl, -⟩ := h.outs.any
  have hle := enc_le d false hf
  have HBY := Lib.hid (h.bytes false)
  clear h
  have HENC := Lib.hid (fun W (hk : Keeps w W) => renc_any S T R d _ _ false hf W (HT.out.keeps hk))
  have Z32 : Hid ((Tryd.prog.info? 23).map (·.size) = some ((idD d false).map (Value.int .u8)).length) := by
    unfold idD; rw [List.length_map, sha_length]; exact Lib.hid sz_b32
  have HDB := Lib.hid (fun (W : World) (v : Value) (n : Nat) (hr : Rd W 1 v n ((encB d false).map (Value.int .u8))) (hn : n ≤ 35184372088832) => ref_double v n (encB d false) W hr HBY.out hn)
  have hidl : (idD d false).length = 32 := by unfold idD; exact sha_length _
  have hide : sha256 (sha256 (encB d false)) = idD d false := rfl
  rw [hide] at HDB
  generalize idD d false = ID at *
  generalize encB d false = EB at *
  go_enter Tryd.func48, Tryd.ntmps48
  go_upto_region 1 with (fail)
  refine wp_rows2 (fun W0 hk hr1 hr2 hs => ?_)
  have hr2 : Row W0 (w.heap.size + 1) 0 (List.replicate 32 (Value.int .u8 0)) := hr2
  simp only at hr1
  obtain ⟨b0, b1, b2, b3⟩ := hr1.cell4
  have HK := Lib.hid hk; have HR2 := Lib.hid hr2
  clear hk hr1 hr2 hs
  go_wp2_with (first | (go_at_call 34; refine (HENC.out _ HK.out).mono ?_; rintro e W2 ⟨v2, rfl, hO2⟩; obtain ⟨a2, c2, rfl⟩ := hO2.any; have HO2 := Lib.hid hO2; clear hO2) | (go_at_call 32; refine (HDB.out _ _ _ HO2.out.rd (by omega)).mono ?_; rintro e W3 ⟨rfl, hk3⟩; have HK3 := Lib.hid hk3; clear hk3) | (refine wpList_store_row rfl 23 (.tmp 2) (.tmp 5) rfl (w.heap.size + 1) 0 rfl _ _ rfl ((HR2.out.keeps HO2.out.keeps).keeps HK3.out) (by simp [hidl]) Z32.out (int_oneCell _) ?_; intro W4 hr4 hc4; have HR4 := Lib.hid hr4; have HC4 := Lib.hid hc4; clear hr4 hc4))
  exact bodyPost_ret (v := .agg (ID.map (Value.int .u8)).toArray) (results_cell_at (p := 2) (ty := 23) rfl _ _ (w.heap.size + 1) 0 _ _ rfl HR4.out Tryd.underlying23 rfl Z32.out) rfl ⟨rfl, keeps_chg ((HK.out.trans HO2.out.keeps).trans HK3.out) HC4.out (by omega)⟩
end Go.Proofs.YtclhjlkgmeofcaaDoor
namespace Go.Proofs.YtclhjlkgmeofcaaDoor
set_option linter.unusedVariables false
set_option linter.unusedSimpArgs false
open Go Go.RowKit

theorem h32_info : (Tryd.prog.info? 23).map (fun i => (i.size, i.bytes)) = some (32, 32) := by kernel_rfl
theorem h32_zero : ((Tryd.prog.info? 23).bind (fun i => i.zero.map (·.cells.size))) = some 32 := by kernel_rfl
theorem hash_info : (Tryd.prog.info? 24).map (fun i => (i.size, i.bytes)) = some (32, 32) := by kernel_rfl
theorem hash_zero : ((Tryd.prog.info? 24).bind (fun i => i.zero.map (·.cells.size))) = some 32 := by kernel_rfl
theorem sz_32 (l : List Int) (h : l.length = 32) : (Tryd.prog.info? 23).map (·.size) = some (l.map (Value.int .u8)).length := by rw [List.length_map, h]; kernel_rfl
theorem sz_h (l : List Int) (h : l.length = 32) : (Tryd.prog.info? 24).map (·.size) = some (l.map (Value.int .u8)).length := by rw [List.length_map, h]; kernel_rfl
/-- one digest more, in a slice of arrays of bytes -/
theorem ownh_append1 {w W W1 : World} {ops : Array Oper} {rest : List Oper} {o : Oper} {a : Act} {Q : Exit → Act → World → Prop} (hgd : o.guard = none) (s x : Operand)
    (ho : o.op = .call { callee := .builtin .append, args := #[s, x], argTypes := #[33, 33] }) {v : Value} {n : Nat} {l : List (List Int)} (hO : OwnH w W v l) (hn : l.length = n) (hk : Keeps W W1) (hv : a.eval s = v)
    {h : List Int} (hl : h.length = 32) (hb : Bytes h) (c : Nat) (TT : TypeId) (cells : Array Value) (hcells : cells = (h.map (Value.int .u8)).toArray) (hx : a.eval x = .slice (some ⟨W1.heap.size, 0, none⟩) 1 c) (hs : (n + 1) * 32 ≤ 140737488355328)
    (K : ∀ v' w', OwnH w w' v' (l ++ [h]) → wpList Tryd.prog ops Q rest (a.put o.dst v') w') : wpList Tryd.prog ops Q (o :: rest) a (W1.alloc (.cells cells TT)) := by
  subst hcells hn
  obtain ⟨i0, z0, hi, hz0, hz1, hz2, hz3⟩ := info2_any h32_info h32_zero
  have hk2 : Keeps W1 (W1.alloc (.cells (h.map (Value.int .u8)).toArray TT)) := keeps_alloc (Keeps.refl _) _
  refine wpList_append_buf hgd s x 33 33 ho 23 i0 z0 32 32 Tryd.underlying33 hi hz0 hz1 hz2 hz3 (by decide) v l.length (hCells l) hv (hO.buf.keeps (hk.trans hk2)) _ hx 1 (h.map (Value.int .u8))
    (Src.row Tryd.underlying33 (by simp [hl]) (Row.new (h.map (Value.int .u8)) _ TT rfl) (int_oneCell h)) (by unfold maxLen; omega) hs
    (fun v' w' hb' hc hs' _ => K v' w' (hO.after (hk.trans hk2) hl hb hb' hc hs'))
theorem ownh_append1' {w W W1 : World} {ops : Array Oper} {rest : List Oper} {o : Oper} {a : Act} {Q : Exit → Act → World → Prop} (hgd : o.guard = none) (s x : Operand)
    (ho : o.op = .call { callee := .builtin .append, args := #[s, x], argTypes := #[22, 22] }) {v : Value} {n : Nat} {l : List (List Int)} (hO : OwnH w W v l) (hn : l.length = n) (hk : Keeps W W1) (hv : a.eval s = v)
    {h : List Int} (hl : h.length = 32) (hb : Bytes h) (c : Nat) (TT : TypeId) (cells : Array Value) (hcells : cells = (h.map (Value.int .u8)).toArray) (hx : a.eval x = .slice (some ⟨W1.heap.size, 0, none⟩) 1 c) (hs : (n + 1) * 32 ≤ 140737488355328)
    (K : ∀ v' w', OwnH w w' v' (l ++ [h]) → wpList Tryd.prog ops Q rest (a.put o.dst v') w') : wpList Tryd.prog ops Q (o :: rest) a (W1.alloc (.cells cells TT)) := by
  subst hcells hn
  obtain ⟨i0, z0, hi, hz0, hz1, hz2, hz3⟩ := info2_any hash_info hash_zero
  have hk2 : Keeps W1 (W1.alloc (.cells (h.map (Value.int .u8)).toArray TT)) := keeps_alloc (Keeps.refl _) _
  refine wpList_append_buf hgd s x 22 22 ho 24 i0 z0 32 32 Tryd.underlying22 hi hz0 hz1 hz2 hz3 (by decide) v l.length (hCells l) hv (hO.buf.keeps (hk.trans hk2)) _ hx 1 (h.map (Value.int .u8))
    (Src.row Tryd.underlying22 (by simp [hl]) (Row.new (h.map (Value.int .u8)) _ TT rfl) (int_oneCell h)) (by unfold maxLen; omega) hs
    (fun v' w' hb' hc hs' _ => K v' w' (hO.after (hk.trans hk2) hl hb hb' hc hs'))
theorem upD_take (l : List (List Int)) (k : Nat) (h : k < (l.length + 1) / 2) : (upD l).take (k + 1) = (upD l).take k ++ [pairD l k] := by
  have hk : (upD l)[k]? = some (pairD l k) := by unfold upD; simp [h]
  rw [List.take_add_one, hk]; rfl
theorem upD_full (l : List (List Int)) (k : Nat) (h : (l.length + 1) / 2 ≤ k) : (upD l).take k = upD l := List.take_of_length_le (by rw [upD_length]; exact h)
end Go.Proofs.YtclhjlkgmeofcaaDoor
