/- tx.Id, tx.WitnessId, the reference's Id and Weight. -/
import Derived.Test.YtjfkkdkmpnpmpaaTxWeigh
import Derived.Test.YtjfkkdkmpnpmpaaSums
import Derived.Test.YtjfkkdkmpnpmpaaTxFew
import Derived.Test.YtjfkkdkmpnpmpaaTxRefN
namespace Go.Proofs.Ytjfkkdkmpnpmpaa
set_option linter.unusedVariables false
set_option linter.unusedSimpArgs false
open Go Go.RowKit

theorem Bytes.app {a b : List Int} (ha : Bytes a) (hb : Bytes b) : Bytes (a ++ b) := fun x hx => by
  rcases List.mem_append.1 hx with h | h
  · exact ha x h
  · exact hb x h
theorem Bytes.flat {α : Type} {f : α → List Int} {l : List α} (h : ∀ x ∈ l, Bytes (f x)) : Bytes (l.flatMap f) := fun x hx => by
  obtain ⟨y, hy, hxy⟩ := List.mem_flatMap.1 hx
  exact h y hy x hxy
theorem sizeB_bytes (n : Int) (h : 0 ≤ n) : Bytes (sizeB n) := by
  unfold sizeB
  have hc : ∀ (a : Int) (l : List Int), Byte a → Bytes l → Bytes (a :: l) := fun a l h1 h2 x hx => by
    rcases List.mem_cons.1 hx with rfl | hx
    · exact h1
    · exact h2 x hx
  split
  · exact hc _ _ ⟨h, by omega⟩ (fun x hx => by cases hx)
  · split
    · exact hc _ _ ⟨by omega, by omega⟩ (leB_bytes _ _)
    · split
      · exact hc _ _ ⟨by omega, by omega⟩ (leB_bytes _ _)
      · exact hc _ _ ⟨by omega, by omega⟩ (leB_bytes _ _)
theorem textB_bytes {l : List Int} (h : Bytes l) : Bytes (textB l) := Bytes.app (sizeB_bytes _ (by omega)) h
theorem RInsX.all {S T R : Nat → Prop} {w : World} {v : Value} {l : List InD} (h : RInsX S T R w v l) : ∀ x ∈ l, x.Ok ∧ Bytes x.script ∧ ∀ u ∈ x.wit, Bytes u := by
  obtain ⟨cs, ps, h⟩ := h
  intro x hx
  obtain ⟨k, hk, e⟩ := List.getElem_of_mem hx
  have hp : ps[k]? = some (ps[k]'(by rw [h.plen]; exact hk)) := List.getElem?_eq_getElem _
  have h1 := (h.each k _ x hp (by rw [List.getElem?_eq_getElem hk, e])).1
  refine ⟨h1.ok, h1.script.bytes, fun u hu => ?_⟩
  obtain ⟨vs, hw⟩ := h1.wit
  obtain ⟨j, hj, e2⟩ := List.getElem_of_mem hu
  have hv : vs[j]? = some (vs[j]'(by rw [hw.len]; exact hj)) := List.getElem?_eq_getElem _
  exact (hw.each j _ u hv (by rw [List.getElem?_eq_getElem hj, e2])).bytes
theorem ROutsX.all {S R : Nat → Prop} {w : World} {v : Value} {l : List OutD} (h : ROutsX S R w v l) : ∀ x ∈ l, Bytes x.script := by
  obtain ⟨cs, ps, h⟩ := h
  intro x hx
  obtain ⟨k, hk, e⟩ := List.getElem_of_mem hx
  have hp : ps[k]? = some (ps[k]'(by rw [h.plen]; exact hk)) := List.getElem?_eq_getElem _
  exact (h.each k _ x hp (by rw [List.getElem?_eq_getElem hk, e])).1.bytes
theorem RTx.bytes {S T R : Nat → Prop} {w : World} {iv ov : Value} {d : TxD} (h : RTx S T R w iv ov d) (wit : Bool) : Bytes (encB d wit) := by
  have hI := h.ins.all
  have hO := h.outs.all
  have h1 : Bytes (insB d.ins) := Bytes.app (sizeB_bytes _ (by omega)) (Bytes.flat fun x hx => Bytes.app (Bytes.app (Bytes.app (hI x hx).1.hash (leB_bytes _ _)) (textB_bytes (hI x hx).2.1)) (leB_bytes _ _))
  have h2 : Bytes (outsB d.outs) := Bytes.app (sizeB_bytes _ (by omega)) (Bytes.flat fun x hx => Bytes.app (leB_bytes _ _) (textB_bytes (hO x hx)))
  have h3 : Bytes (d.ins.flatMap witB) := Bytes.flat fun x hx => Bytes.app (sizeB_bytes _ (by omega)) (Bytes.flat fun u hu => textB_bytes ((hI x hx).2.2 u hu))
  have hm : Bytes (if (wit && witnessedD d) = true then [0, 1] else []) := by
    split
    · intro x hx; simp at hx; rcases hx with rfl | rfl <;> exact ⟨by omega, by omega⟩
    · intro x hx; cases hx
  have hw : Bytes (if (wit && witnessedD d) = true then d.ins.flatMap witB else []) := by
    split
    · exact h3
    · intro x hx; cases hx
  unfold encB
  exact Bytes.app (Bytes.app (Bytes.app (Bytes.app (Bytes.app (leB_bytes _ _) hm) h1) h2) hw) (leB_bytes _ _)
/-- the name of what d's bytes are -/
def idD (d : TxD) (wit : Bool) : List Int := sha256 (sha256 (encB d wit))
set_option maxRecDepth 100000 in
set_option maxHeartbeats 1000000 in
theorem id_any (S T R : Nat → Prop) (d : TxD) (iv ov : Value) (hf : Fits d) (w : World) (h : RTx S T R w iv ov d) (hS : ∀ g, S g → g < w.heap.size) :
    Calls Try.prog 20 #[.agg #[.int .i32 d.ver, iv, ov, .int .u32 d.lock]] w fun e w' => e = .returned (.agg ((idD d false).map (Value.int .u8)).toArray) ∧ Keeps w w' := by
  have HT := Lib.hid h; have HS := Lib.hid hS
  obtain ⟨ia, ic, rfl, -⟩ := h.ins.any
  obtain ⟨oa, oc, rfl, -⟩ := h.outs.any
  have hle := enc_le d false hf
  have HBY := Lib.hid (h.bytes false)
  clear h hS
  have HENC := Lib.hid (fun W (hk : Keeps w W) => enc_any S T R d _ _ false hf W (HT.out.keeps hk) (fun g hg => Nat.lt_of_lt_of_le (HS.out g hg) hk.size))
  have Z32 : Hid ((Try.prog.info? 36).map (·.size) = some ((idD d false).map (Value.int .u8)).length) := by
    unfold idD; rw [List.length_map, sha_length]; exact Lib.hid sz_hash
  have HDB := Lib.hid (fun (W : World) (v : Value) (n : Nat) (hr : Rd W 1 v n ((encB d false).map (Value.int .u8))) (hn : n ≤ 35184372088832) => double_any v n (encB d false) W hr HBY.out hn)
  have hidl : (idD d false).length = 32 := by unfold idD; exact sha_length _
  have hide : sha256 (sha256 (encB d false)) = idD d false := rfl
  rw [hide] at HDB
  generalize idD d false = ID at *
  generalize encB d false = EB at *
  go_enter Try.func20, Try.ntmps20
  go_upto_region 1 with (fail)
  refine wp_rows2 (fun W0 hk hr1 hr2 hs => ?_)
  have hr2 : Row W0 (w.heap.size + 1) 0 (List.replicate 32 (Value.int .u8 0)) := hr2
  simp only at hr1
  obtain ⟨b0, b1, b2, b3⟩ := hr1.cell4
  have HK := Lib.hid hk; have HR2 := Lib.hid hr2
  clear hk hr1 hr2 hs
  go_wp2_with (first | (go_at_call 28; refine (HENC.out _ HK.out).mono ?_; rintro e W2 ⟨v2, rfl, hO2⟩; obtain ⟨a2, c2, rfl⟩ := hO2.any; have HO2 := Lib.hid hO2; clear hO2) | (go_at_call 56; refine (HDB.out _ _ _ HO2.out.rd (by omega)).mono ?_; rintro e W3 ⟨rfl, hk3⟩; have HK3 := Lib.hid hk3; clear hk3) | (refine wpList_store_row rfl 36 (.tmp 2) (.tmp 5) rfl (w.heap.size + 1) 0 rfl _ _ rfl ((HR2.out.keeps HO2.out.keeps).keeps HK3.out) (by simp [hidl]) Z32.out (int_oneCell _) ?_; intro W4 hr4 hc4; have HR4 := Lib.hid hr4; have HC4 := Lib.hid hc4; clear hr4 hc4))
  exact bodyPost_ret (v := .agg (ID.map (Value.int .u8)).toArray) (results_cell_at (p := 2) (ty := 36) rfl _ _ (w.heap.size + 1) 0 _ _ rfl HR4.out Try.underlying36 rfl Z32.out) rfl ⟨rfl, keeps_chg ((HK.out.trans HO2.out.keeps).trans HK3.out) HC4.out (by omega)⟩
set_option maxRecDepth 100000 in
set_option maxHeartbeats 1000000 in
theorem wid_any (S T R : Nat → Prop) (d : TxD) (iv ov : Value) (hf : Fits d) (w : World) (h : RTx S T R w iv ov d) (hS : ∀ g, S g → g < w.heap.size) :
    Calls Try.prog 22 #[.agg #[.int .i32 d.ver, iv, ov, .int .u32 d.lock]] w fun e w' => e = .returned (.agg ((idD d true).map (Value.int .u8)).toArray) ∧ Keeps w w' := by
  have HT := Lib.hid h; have HS := Lib.hid hS
  obtain ⟨ia, ic, rfl, -⟩ := h.ins.any
  obtain ⟨oa, oc, rfl, -⟩ := h.outs.any
  have hle := enc_le d true hf
  have HBY := Lib.hid (h.bytes true)
  clear h hS
  have HENC := Lib.hid (fun W (hk : Keeps w W) => enc_any S T R d _ _ true hf W (HT.out.keeps hk) (fun g hg => Nat.lt_of_lt_of_le (HS.out g hg) hk.size))
  have Z32 : Hid ((Try.prog.info? 36).map (·.size) = some ((idD d true).map (Value.int .u8)).length) := by
    unfold idD; rw [List.length_map, sha_length]; exact Lib.hid sz_hash
  have HDB := Lib.hid (fun (W : World) (v : Value) (n : Nat) (hr : Rd W 1 v n ((encB d true).map (Value.int .u8))) (hn : n ≤ 35184372088832) => double_any v n (encB d true) W hr HBY.out hn)
  have hidl : (idD d true).length = 32 := by unfold idD; exact sha_length _
  have hide : sha256 (sha256 (encB d true)) = idD d true := rfl
  rw [hide] at HDB
  generalize idD d true = ID at *
  generalize encB d true = EB at *
  go_enter Try.func22, Try.ntmps22
  go_upto_region 1 with (fail)
  refine wp_rows2 (fun W0 hk hr1 hr2 hs => ?_)
  have hr2 : Row W0 (w.heap.size + 1) 0 (List.replicate 32 (Value.int .u8 0)) := hr2
  simp only at hr1
  obtain ⟨b0, b1, b2, b3⟩ := hr1.cell4
  have HK := Lib.hid hk; have HR2 := Lib.hid hr2
  clear hk hr1 hr2 hs
  go_wp2_with (first | (go_at_call 28; refine (HENC.out _ HK.out).mono ?_; rintro e W2 ⟨v2, rfl, hO2⟩; obtain ⟨a2, c2, rfl⟩ := hO2.any; have HO2 := Lib.hid hO2; clear hO2) | (go_at_call 56; refine (HDB.out _ _ _ HO2.out.rd (by omega)).mono ?_; rintro e W3 ⟨rfl, hk3⟩; have HK3 := Lib.hid hk3; clear hk3) | (refine wpList_store_row rfl 36 (.tmp 2) (.tmp 5) rfl (w.heap.size + 1) 0 rfl _ _ rfl ((HR2.out.keeps HO2.out.keeps).keeps HK3.out) (by simp [hidl]) Z32.out (int_oneCell _) ?_; intro W4 hr4 hc4; have HR4 := Lib.hid hr4; have HC4 := Lib.hid hc4; clear hr4 hc4))
  exact bodyPost_ret (v := .agg (ID.map (Value.int .u8)).toArray) (results_cell_at (p := 2) (ty := 36) rfl _ _ (w.heap.size + 1) 0 _ _ rfl HR4.out Try.underlying36 rfl Z32.out) rfl ⟨rfl, keeps_chg ((HK.out.trans HO2.out.keeps).trans HK3.out) HC4.out (by omega)⟩
set_option maxRecDepth 100000 in
set_option maxHeartbeats 1000000 in
theorem rid_any (S T R : Nat → Prop) (d : TxD) (iv ov : Value) (hf : Fits d) (w : World) (h : RTx S T R w iv ov d) :
    Calls Try.prog 21 #[.agg #[.int .i32 d.ver, iv, ov, .int .u32 d.lock]] w fun e w' => e = .returned (.agg ((idD d false).map (Value.int .u8)).toArray) ∧ Keeps w w' := by
  have HT := Lib.hid h
  obtain ⟨ia, ic, rfl, -⟩ := h.ins.any
  obtain ⟨oa, oc, rfl, -⟩ := h.outs.any
  have hle := enc_le d false hf
  have HBY := Lib.hid (h.bytes false)
  clear h
  have HENC := Lib.hid (fun W (hk : Keeps w W) => renc_any S T R d _ _ false hf W (HT.out.keeps hk))
  have Z32 : Hid ((Try.prog.info? 35).map (·.size) = some ((idD d false).map (Value.int .u8)).length) := by
    unfold idD; rw [List.length_map, sha_length]; exact Lib.hid sz_b32
  have HDB := Lib.hid (fun (W : World) (v : Value) (n : Nat) (hr : Rd W 1 v n ((encB d false).map (Value.int .u8))) (hn : n ≤ 35184372088832) => ref_double v n (encB d false) W hr HBY.out hn)
  have hidl : (idD d false).length = 32 := by unfold idD; exact sha_length _
  have hide : sha256 (sha256 (encB d false)) = idD d false := rfl
  rw [hide] at HDB
  generalize idD d false = ID at *
  generalize encB d false = EB at *
  go_enter Try.func21, Try.ntmps21
  go_upto_region 1 with (fail)
  refine wp_rows2 (fun W0 hk hr1 hr2 hs => ?_)
  have hr2 : Row W0 (w.heap.size + 1) 0 (List.replicate 32 (Value.int .u8 0)) := hr2
  simp only at hr1
  obtain ⟨b0, b1, b2, b3⟩ := hr1.cell4
  have HK := Lib.hid hk; have HR2 := Lib.hid hr2
  clear hk hr1 hr2 hs
  go_wp2_with (first | (go_at_call 19; refine (HENC.out _ HK.out).mono ?_; rintro e W2 ⟨v2, rfl, hO2⟩; obtain ⟨a2, c2, rfl⟩ := hO2.any; have HO2 := Lib.hid hO2; clear hO2) | (go_at_call 23; refine (HDB.out _ _ _ HO2.out.rd (by omega)).mono ?_; rintro e W3 ⟨rfl, hk3⟩; have HK3 := Lib.hid hk3; clear hk3) | (refine wpList_store_row rfl 35 (.tmp 2) (.tmp 5) rfl (w.heap.size + 1) 0 rfl _ _ rfl ((HR2.out.keeps HO2.out.keeps).keeps HK3.out) (by simp [hidl]) Z32.out (int_oneCell _) ?_; intro W4 hr4 hc4; have HR4 := Lib.hid hr4; have HC4 := Lib.hid hc4; clear hr4 hc4))
  exact bodyPost_ret (v := .agg (ID.map (Value.int .u8)).toArray) (results_cell_at (p := 2) (ty := 35) rfl _ _ (w.heap.size + 1) 0 _ _ rfl HR4.out Try.underlying35 rfl Z32.out) rfl ⟨rfl, keeps_chg ((HK.out.trans HO2.out.keeps).trans HK3.out) HC4.out (by omega)⟩
end Go.Proofs.Ytjfkkdkmpnpmpaa
