/- What was written of a transaction is read back. No condition. | The bytes of a transaction are bytes; a cut one is in range. (Printed by gtxb.py.) | The reference's Equal of bytes. -/
import Derived.Test.YtcodpdpeklammaaGA5
import Derived.Test.YtcodpdpeklammaaGD2
import Derived.Test.YtcodpdpeklammaaGB2
import Derived.Test.YtcodpdpeklammaaGC9
import Derived.Test.YtcodpdpeklammaaGD4
import Derived.Laws.BytesArg
import Derived.ChangeKeysEq
namespace Go.Proofs.Ytcodpdpeklammaa
set_option linter.unusedVariables false
set_option linter.unusedSimpArgs false
open Go Go.RowKit

def bareI (d : InD) : InD := { d with wit := [] }
structure InCod (d : InD) : Prop where
  hash : d.hash.length = 32
  index : 0 ≤ d.index ∧ d.index < 4294967296
  seq : 0 ≤ d.seq ∧ d.seq < 4294967296
  script : d.script.length ≤ 100000
  wits : d.wit.length ≤ 25000
  item : ∀ x ∈ d.wit, x.length ≤ 100000
structure OutCod (d : OutD) : Prop where
  value : -9223372036854775808 ≤ d.value ∧ d.value < 9223372036854775808
  script : d.script.length ≤ 100000
structure TxCod (d : TxD) : Prop where
  ver : -2147483648 ≤ d.ver ∧ d.ver < 2147483648
  lock : 0 ≤ d.lock ∧ d.lock < 4294967296
  ins : d.ins.length ≤ 25000
  outs : d.outs.length ≤ 25000
  each : ∀ x ∈ d.ins, InCod x
  eacho : ∀ x ∈ d.outs, OutCod x
theorem rdIn_app (d : InD) (r : List Int) (h : InCod d) : rdIn (inB d ++ r) = .ok (bareI d, r) := by
  unfold rdIn inB
  simp only [List.append_assoc]
  rw [rdBind_ok (rdTake_app _ _ 32 h.hash), rdBind_ok (rdNum_app _ 4 _ h.index.1 (by have := h.index.2; omega)), rdBind_ok (rdList_app _ _ _ (by have := h.script; omega) (by have := h.script; omega)), rdBind_ok (rdNum_app _ 4 _ h.seq.1 (by have := h.seq.2; omega))]
  rfl
theorem toI64_mod {v : Int} (h : -9223372036854775808 ≤ v ∧ v < 9223372036854775808) : toI64 (v % 18446744073709551616) = v := by unfold toI64; split <;> omega
theorem toI32_mod {v : Int} (h : -2147483648 ≤ v ∧ v < 2147483648) : toI32 (v % 4294967296) = v := by unfold toI32; split <;> omega
theorem rdOut_app (d : OutD) (r : List Int) (h : OutCod d) : rdOut (outB d ++ r) = .ok (d, r) := by
  unfold rdOut outB
  simp only [List.append_assoc]
  rw [rdBind_ok (rdNum_app _ 8 _ (by omega) (by omega)), rdBind_ok (rdList_app _ _ _ (by have := h.script; omega) (by have := h.script; omega)), toI64_mod h.value]
  rfl
theorem rdWit_app (d : InD) (r : List Int) (h : InCod d) : rdWit (bareI d) (witB d ++ r) = .ok (d, r) := by
  unfold rdWit witB
  rw [List.append_assoc, rdBind_ok (rdCount_app _ _ h.wits), rdBind_ok (rdMany_app (rdList 100000) textB _ d.wit r rfl (fun x hx r => rdList_app _ _ _ (by have := h.item x hx; omega) (by have := h.item x hx; omega)))]
  rfl
theorem rdWits_app (l : List InD) (h : ∀ x ∈ l, InCod x) : ∀ (i : Nat) (r : List Int), i ≤ l.length → rdWits (l.map bareI) i ((l.take i).flatMap witB ++ r) = .ok (l.take i, r)
  | 0, r, _ => rfl
  | i + 1, r, hi => by
    obtain ⟨d, hd⟩ : ∃ d, l[i]? = some d := ⟨_, List.getElem?_eq_getElem (show i < l.length by omega)⟩
    have e : l.take (i + 1) = l.take i ++ [d] := by rw [List.take_add_one, hd]; rfl
    have e2 : (l.map bareI).getD i ⟨[], 0, [], 0, []⟩ = bareI d := by simp [List.getD, hd]
    rw [rdWits, e, List.flatMap_append, List.append_assoc, rdBind_ok (rdWits_app l h i _ (by omega)), e2]
    have e3 : [d].flatMap witB ++ r = witB d ++ r := by simp
    rw [e3, rdBind_ok (rdWit_app d r (h d (List.mem_of_getElem? hd)))]
    rfl
theorem insMany_app (l : List InD) (r : List Int) (h : ∀ x ∈ l, InCod x) : rdMany rdIn l.length (l.flatMap inB ++ r) = .ok (l.map bareI, r) := by
  have e : l.flatMap inB = (l.map bareI).flatMap inB := by
    rw [List.flatMap_map]; rfl
  rw [e]
  refine rdMany_app rdIn inB _ (l.map bareI) r (by simp) (fun x hx r => ?_)
  obtain ⟨y, hy, rfl⟩ := List.mem_map.1 hx
  have hc := h y hy
  exact rdIn_app (bareI y) r ⟨hc.hash, hc.index, hc.seq, hc.script, Nat.zero_le _, fun z hz => by cases hz⟩
theorem rdRest_app (d : TxD) (second : Bool) (h : TxCod d) (hw : witnessedD d = second) (wb : List Int) (hb : wb = if second then d.ins.flatMap witB else []) (hbare : second = false → d.ins.map bareI = d.ins) :
    rdRest d.ver second d.ins.length (d.ins.flatMap inB ++ (outsB d.outs ++ (wb ++ leB d.lock 4))) = .ok (d, []) := by
  unfold rdRest outsB
  have hl : rdNum 4 (leB d.lock 4) = .ok (d.lock, []) := by
    have := rdNum_app d.lock 4 [] h.lock.1 (by have := h.lock.2; omega)
    rwa [List.append_nil] at this
  rw [rdBind_ok (insMany_app _ _ h.each)]
  simp only [List.append_assoc]
  rw [rdBind_ok (rdCount_app _ _ h.outs), rdBind_ok (rdMany_app rdOut outB _ d.outs _ rfl (fun x hx r => rdOut_app x r (h.eacho x hx)))]
  cases second
  · rw [if_neg (by simp)] at hb ⊢
    subst hb
    rw [List.nil_append, rdBind_ok (f := _) (show rdOk (d.ins.map bareI) (leB d.lock 4) = .ok (d.ins.map bareI, leB d.lock 4) from rfl), rdBind_ok hl, hbare rfl]
    simp
  · rw [if_pos rfl] at hb ⊢
    subst hb
    have := rdWits_app d.ins h.each d.ins.length (leB d.lock 4) (Nat.le_refl _)
    rw [List.take_length] at this
    rw [List.length_map, rdBind_ok this, rdBind_ok hl]
    have e : (⟨d.ver, d.ins, d.outs, d.lock⟩ : TxD) = d := rfl
    rw [e, hw]
    simp
theorem bare_plain {l : List InD} (h : ∀ x ∈ l, x.wit = []) : l.map bareI = l := by
  have : ∀ x ∈ l, bareI x = x := fun x hx => by
    have := h x hx
    cases x
    simp only at this
    subst this
    rfl
  exact (List.map_congr_left this).trans (List.map_id l)
theorem not_witnessed {d : TxD} (h : witnessedD d = false) : ∀ x ∈ d.ins, x.wit = [] := fun x hx => by
  unfold witnessedD at h
  have := List.any_eq_false.1 h x hx
  simpa using this
theorem rdTx_app (d : TxD) (h : TxCod d) (hne : d.ins ≠ []) : rdTx (encB d true) = .ok (d, []) := by
  have hpos : 0 < d.ins.length := List.length_pos_iff.2 hne
  unfold rdTx encB insB
  cases hw : witnessedD d
  · simp only [Bool.and_false, Bool.false_eq_true, if_false, List.append_nil, List.append_assoc]
    rw [rdBind_ok (rdNum_app _ 4 _ (by omega) (by omega)), rdBind_ok (rdCount_app _ _ h.ins), if_neg (by omega), toI32_mod h.ver]
    exact rdRest_app d false h hw [] (by simp) (fun _ => bare_plain (not_witnessed hw))
  · simp only [Bool.and_self, if_true, List.append_assoc]
    rw [rdBind_ok (rdNum_app _ 4 _ (by omega) (by omega))]
    have e0 : ∀ r, rdCount (0 :: r) = .ok (0, r) := fun r => by
      have := rdCount_app 0 r (by omega)
      rwa [show sizeB ((0 : Nat) : Int) = [0] from by unfold sizeB; simp] at this
    have e1 : ∀ r, rdNum 1 (1 :: r) = .ok (1, r) := fun r => by
      have := rdNum_app 1 1 r (by omega) (by omega)
      rwa [show leB 1 1 = [1] from by simp [leB]] at this
    simp only [List.cons_append, List.nil_append]
    rw [rdBind_ok (e0 _), if_pos rfl, rdBind_ok (e1 _), if_neg (by omega), rdBind_ok (rdCount_app _ _ h.ins), toI32_mod h.ver]
    exact rdRest_app d true h hw _ (by simp) (fun h => by cases h)
theorem decTx_app (d : TxD) (h : TxCod d) (hne : d.ins ≠ []) (hl : (encB d true).length ≤ 100000) : decTx (encB d true) = .ok d := by
  unfold decTx
  rw [if_neg (by omega), rdTx_app d h hne]
end Go.Proofs.Ytcodpdpeklammaa
namespace Go.Proofs.Ytcodpdpeklammaa
set_option linter.unusedVariables false
set_option linter.unusedSimpArgs false
open Go Go.RowKit
theorem bytesApp {a b : List Int} (ha : Bytes a) (hb : Bytes b) : Bytes (a ++ b) := fun x hx => by
  rcases List.mem_append.1 hx with h | h
  · exact ha x h
  · exact hb x h
theorem bytesFlat {α : Type} {f : α → List Int} {l : List α} (h : ∀ x ∈ l, Bytes (f x)) : Bytes (l.flatMap f) := fun x hx => by
  obtain ⟨y, hy, hxy⟩ := List.mem_flatMap.1 hx
  exact h y hy x hxy
theorem sizeB_bytesY (n : Int) (h : 0 ≤ n) : Bytes (sizeB n) := by
  unfold sizeB
  have hc : ∀ (a : Int) (l : List Int), Byte a → Bytes l → Bytes (a :: l) := fun a l h1 h2 x hx => by
    rcases List.mem_cons.1 hx with rfl | hx
    · exact h1
    · exact h2 x hx
  split
  · exact hc _ _ ⟨h, by omega⟩ (fun x hx => by cases hx)
  · split
    · exact hc _ _ ⟨by omega, by omega⟩ (leB_bytes _ _)
    · split
      · exact hc _ _ ⟨by omega, by omega⟩ (leB_bytes _ _)
      · exact hc _ _ ⟨by omega, by omega⟩ (leB_bytes _ _)
theorem textB_bytesY {l : List Int} (h : Bytes l) : Bytes (textB l) := bytesApp (sizeB_bytesY _ (by omega)) h
theorem RInsX.allY {S T R : Nat → Prop} {w : World} {v : Value} {l : List InD} (h : RInsX S T R w v l) : ∀ x ∈ l, x.Ok ∧ Bytes x.script ∧ ∀ u ∈ x.wit, Bytes u := by
  obtain ⟨cs, ps, h⟩ := h
  intro x hx
  obtain ⟨k, hk, e⟩ := List.getElem_of_mem hx
  have hp : ps[k]? = some (ps[k]'(by rw [h.plen]; exact hk)) := List.getElem?_eq_getElem _
  have h1 := (h.each k _ x hp (by rw [List.getElem?_eq_getElem hk, e])).1
  refine ⟨h1.ok, h1.script.bytes, fun u hu => ?_⟩
  obtain ⟨vs, hw⟩ := h1.wit
  obtain ⟨j, hj, e2⟩ := List.getElem_of_mem hu
  have hv : vs[j]? = some (vs[j]'(by rw [hw.len]; exact hj)) := List.getElem?_eq_getElem _
  exact (hw.each j _ u hv (by rw [List.getElem?_eq_getElem hj, e2])).bytes
theorem ROutsX.allY {S R : Nat → Prop} {w : World} {v : Value} {l : List OutD} (h : ROutsX S R w v l) : ∀ x ∈ l, Bytes x.script := by
  obtain ⟨cs, ps, h⟩ := h
  intro x hx
  obtain ⟨k, hk, e⟩ := List.getElem_of_mem hx
  have hp : ps[k]? = some (ps[k]'(by rw [h.plen]; exact hk)) := List.getElem?_eq_getElem _
  exact (h.each k _ x hp (by rw [List.getElem?_eq_getElem hk, e])).1.bytes
theorem RTx.bytesY {S T R : Nat → Prop} {w : World} {iv ov : Value} {d : TxD} (h : RTx S T R w iv ov d) (wit : Bool) : Bytes (encB d wit) := by
  have hI := h.ins.allY
  have hO := h.outs.allY
  have h1 : Bytes (insB d.ins) := bytesApp (sizeB_bytesY _ (by omega)) (bytesFlat fun x hx => bytesApp (bytesApp (bytesApp (hI x hx).1.hash (leB_bytes _ _)) (textB_bytesY (hI x hx).2.1)) (leB_bytes _ _))
  have h2 : Bytes (outsB d.outs) := bytesApp (sizeB_bytesY _ (by omega)) (bytesFlat fun x hx => bytesApp (leB_bytes _ _) (textB_bytesY (hO x hx)))
  have h3 : Bytes (d.ins.flatMap witB) := bytesFlat fun x hx => bytesApp (sizeB_bytesY _ (by omega)) (bytesFlat fun u hu => textB_bytesY ((hI x hx).2.2 u hu))
  have hm : Bytes (if (wit && witnessedD d) = true then [0, 1] else []) := by
    split
    · intro x hx; simp at hx; rcases hx with rfl | rfl <;> exact ⟨by omega, by omega⟩
    · intro x hx; cases hx
  have hw : Bytes (if (wit && witnessedD d) = true then d.ins.flatMap witB else []) := by
    split
    · exact h3
    · intro x hx; cases hx
  unfold encB
  exact bytesApp (bytesApp (bytesApp (bytesApp (bytesApp (leB_bytes _ _) hm) h1) h2) hw) (leB_bytes _ _)
theorem enc_few_len (d : TxD) (h : d.ins.all (fun i => i.hash.length == 32) = true) (wit : Bool) : (encB (fewD 10 600 d) wit).length ≤ 100000 := by
  have ht : ∀ l : List Int, l.length ≤ 600 → (textB l).length ≤ 609 := fun l hl => by
    have := sizeB_len (l.length : Int)
    unfold textB; rw [List.length_append]; omega
  have h1 : ((fewD 10 600 d).ins.flatMap inB).length ≤ 10 * 649 := by
    refine Nat.le_trans (flat_le inB 649 _ (fun x hx => ?_)) (Nat.mul_le_mul_right _ (by simp [fewD]; omega))
    obtain ⟨y, hy, rfl⟩ := List.mem_map.1 hx
    have h32 : y.hash.length = 32 := by have := List.all_eq_true.1 h y (List.mem_of_mem_take hy); simpa using this
    have := ht (y.script.take 600) (by simp; omega)
    unfold inB trimIn
    simp only [List.length_append, leB_length]
    omega
  have h2 : ((fewD 10 600 d).outs.flatMap outB).length ≤ 10 * 617 := by
    refine Nat.le_trans (flat_le outB 617 _ (fun x hx => ?_)) (Nat.mul_le_mul_right _ (by simp [fewD]; omega))
    obtain ⟨y, hy, rfl⟩ := List.mem_map.1 hx
    have := ht (y.script.take 600) (by simp; omega)
    unfold outB trimOut
    simp only [List.length_append, leB_length]
    omega
  have h3 : ((fewD 10 600 d).ins.flatMap witB).length ≤ 10 * 6099 := by
    refine Nat.le_trans (flat_le witB 6099 _ (fun x hx => ?_)) (Nat.mul_le_mul_right _ (by simp [fewD]; omega))
    obtain ⟨y, hy, rfl⟩ := List.mem_map.1 hx
    have hs := sizeB_len ((trimIn 10 600 y).wit.length : Int)
    have hw : ((trimIn 10 600 y).wit.flatMap textB).length ≤ 10 * 609 := by
      refine Nat.le_trans (flat_le textB 609 _ (fun z hz => ?_)) (Nat.mul_le_mul_right _ (by simp [trimIn]; omega))
      obtain ⟨q, hq, rfl⟩ := List.mem_map.1 hz
      exact ht _ (by simp; omega)
    unfold witB
    rw [List.length_append]
    omega
  have s1 := sizeB_len ((fewD 10 600 d).ins.length : Int)
  have s2 := sizeB_len ((fewD 10 600 d).outs.length : Int)
  unfold encB insB outsB
  simp only [List.length_append, leB_length]
  by_cases hc : (wit && witnessedD (fewD 10 600 d)) = true
  · rw [if_pos hc, if_pos hc]; simp only [List.length_cons, List.length_nil]; omega
  · rw [if_neg hc, if_neg hc]; simp only [List.length_nil]; omega
theorem cod_few {S T R : Nat → Prop} {w : World} {iv ov : Value} (d : TxD) (h : RTx S T R w iv ov (fewD 10 600 d)) : TxCod (fewD 10 600 d) := by
  have hI := h.ins.allY
  refine ⟨h.ver, h.lock, by simp [fewD]; omega, by simp [fewD]; omega, fun x hx => ?_, fun x hx => ?_⟩
  · obtain ⟨y, hy, e⟩ := List.mem_map.1 (show x ∈ (d.ins.take 10).map (trimIn 10 600) from hx)
    have hok := (hI x hx).1
    subst e
    refine ⟨hok.hashLen, hok.index, hok.seq, by simp [trimIn]; omega, by simp [trimIn]; omega, fun z hz => ?_⟩
    obtain ⟨q, hq, rfl⟩ := List.mem_map.1 (show z ∈ (y.wit.take 10).map (·.take 600) from hz)
    simp; omega
  · obtain ⟨y, hy, e⟩ := List.mem_map.1 (show x ∈ (d.outs.take 10).map (trimOut 600) from hx)
    have hv : I64 x.value := by
      obtain ⟨cs, ps, ho⟩ := h.outs
      obtain ⟨k, hk, e2⟩ := List.getElem_of_mem hx
      have hp : ps[k]? = some (ps[k]'(by rw [ho.plen]; exact hk)) := List.getElem?_eq_getElem _
      exact (ho.each k _ x hp (by rw [List.getElem?_eq_getElem hk, e2])).2.1
    subst e
    exact ⟨hv, by simp [trimOut]; omega⟩
end Go.Proofs.Ytcodpdpeklammaa
namespace Go.Proofs.Ytcodpdpeklammaa
set_option linter.unusedVariables false
set_option linter.unusedSimpArgs false
open Go Go.RowKit

/-- the string of such bytes -/
theorem conv_any {S : Nat → Prop} {w : World} {v : Value} {l : List Int} (h : RB S w v l) : (convert 29 9 v).run Try.prog w = .ok (.string (strOfNums l)) w := by
  obtain ⟨h0, a, cap, rfl, h2, h3, h4, h5⟩ := h.rd
  by_cases hl : l.length = 0
  · have hnil : l = [] := List.length_eq_zero_iff.1 hl
    subst hnil
    show (convert 29 9 (.slice a 0 cap)).run Try.prog w = _
    cases a with
    | none => exact run_convert_bytes_nil w 29 5 Try.underlying29 Try.underlying5 0 cap 9 Try.underlying9
    | some ad =>
      rw [run_convert_bytes_string w 29 9 5 _ 0 cap Try.underlying29 Try.underlying5 Try.underlying9]
      simp [Conv.bytesToString, loadCells]
      rfl
  · cases a with
    | none => exact absurd (h4 rfl).1 hl
    | some ad =>
      obtain ⟨g, off, rfl, hg, hr⟩ := h5 ad rfl (by omega)
      exact run_convert_bytes_arg w 29 5 Try.underlying29 Try.underlying5 g off l.length cap l rfl (fun i hi => hr.int i hi) 9 Try.underlying9
theorem strOf_inj {a b : List Int} (ha : Bytes a) (hb : Bytes b) (h : strOfNums a = strOfNums b) : a = b := by
  have h1 : a.map (fun n => UInt8.ofNat n.toNat) = b.map (fun n => UInt8.ofNat n.toNat) := by rw [← strOfNums_data, ← strOfNums_data, h]
  clear h
  induction a generalizing b with
  | nil => cases b with
    | nil => rfl
    | cons _ _ => simp at h1
  | cons x r ih => cases b with
    | nil => simp at h1
    | cons y q =>
      simp only [List.map_cons, List.cons.injEq] at h1
      have hx := ha x (by simp); have hy := hb y (by simp)
      obtain ⟨x0, x1⟩ := hx
      obtain ⟨y0, y1⟩ := hy
      have e := congrArg UInt8.toNat h1.1
      simp only [UInt8.toNat_ofNat'] at e
      rw [ih (fun z hz => ha z (by simp [hz])) (fun z hz => hb z (by simp [hz])) h1.2, show x = y by omega]
theorem requal_any {S S' : Nat → Prop} {w : World} {v v' : Value} {l l' : List Int} (h : RB S w v l) (h' : RB S' w v' l') : Calls Try.prog 7 #[v, v'] w fun e w' => e = .returned (.bool (decide (l = l'))) ∧ w = w' := by
  have hc1 := conv_any h
  have hc2 := conv_any h'
  have hinj := strOf_inj h.bytes h'.bytes
  clear h h'
  have HC1 := Lib.hid hinj
  clear hinj
  go_enter Try.func7, Try.ntmps7
  go_wp2
  go_ret
  refine ⟨?_, rfl⟩
  by_cases e : l = l'
  · subst e
    exact ret_bool (by simp)
  · have h1 : ((strOfNums l).toList == (strOfNums l').toList) = false := beq_eq_false_iff_ne.2 (fun h2 => e (HC1.out (by
      rw [ByteArray.toList_eq, ByteArray.toList_eq] at h2
      exact ByteArray.ext (Array.toList_inj.1 h2))))
    exact ret_bool (by rw [h1, decide_eq_false e])
set_option maxRecDepth 100000 in
theorem rsameL_any {S T S' T' : Nat → Prop} {w : World} {v v' : Value} {ls ls' : List (List Int)} (h : RLL S T w v ls) (h' : RLL S' T' w v' ls') : Calls Try.prog 38 #[v, v'] w fun e w' => e = .returned (.bool (decide (ls = ls'))) ∧ Keeps w w' := by
  have H1 := Lib.hid h; have H2 := Lib.hid h'
  obtain ⟨a, c, rfl, hc, hcm, -⟩ := h.any
  obtain ⟨a', c', rfl, hc', hcm', -⟩ := h'.any
  have hsm : ls.length * 24 ≤ 140737488355328 := by obtain ⟨_, h⟩ := h; exact h.small
  have hsm' : ls'.length * 24 ≤ 140737488355328 := by obtain ⟨_, h⟩ := h'; exact h.small
  clear h h'
  by_cases hlen : ls.length = ls'.length
  rotate_left
  · have hne : ¬ ls = ls' := fun e => hlen (by rw [e])
    have hz : ((ls.length : Int) == ls'.length) = false := beq_eq_false_iff_ne.2 (by omega)
    rw [decide_eq_false hne]
    go_enter Try.func38, Try.ntmps38
    go_wp2
    go_ret
    exact ⟨by first | rfl | exact ret_bool (by simp), Keeps.refl _⟩
  · obtain ⟨R, hR⟩ : ∃ R : Bool, R = decide (ls = ls') := ⟨_, rfl⟩
    rw [← hR]
    have HR := Lib.hid hR
    clear hR
    have HLEN := Lib.hid hlen
    have hz : ((ls.length : Int) == ls'.length) = true := beq_iff_eq.2 (by omega)
    clear hlen
    go_enter Try.func38, Try.ntmps38
    go_upto_region 3 with (fail)
    clear hz
    try (rename (((ls.length : Int) != (ls'.length : Int)) = false) => hbad; clear hbad)
    go_wp2
    go_loopw [5] (fun c wr => ∃ i : Nat, i ≤ ls.length ∧ c = .int .i64 i ∧ Hid (Keeps w wr) ∧ Hid (∀ j, j < i → ls.getD j [] = ls'.getD j [])) (fun c _ => (ls.length - intOf c).toNat)
    case atStart => exact ⟨0, by omega, rfl, Lib.hid (Keeps.refl _), Lib.hid (fun j hj => by omega)⟩
    case round =>
      obtain ⟨i, hi, rfl, HK, HE⟩ := hrel
      by_cases hlt : i < ls.length
      · obtain ⟨g, off, u, rfl, hg, hcell, hu⟩ := (H1.out.keeps HK.out).at i hlt
        obtain ⟨g', off', u', rfl, hg', hcell', hu'⟩ := (H2.out.keeps HK.out).at i (by rw [← HLEN.out]; exact hlt)
        have hlt' : i < ls'.length := by rw [← HLEN.out]; exact hlt
        have HU := Lib.hid hu; have HU' := Lib.hid hu'
        clear hu hu'
        go_upto_region 6 with (fail)
        refine wp_region_quiet_tail 8 (by kernel_rfl) (by kernel_rfl) ?_
        simp only [List.take_succ_cons, List.take_zero, List.drop_succ_cons, List.drop_zero]
        repeat (first | go_big_quiet_step (fail) | quiet_step (fail))
        refine wpQuiet_nil ?_
        intro _ hw'
        obtain ⟨nq, hw''⟩ := hw'
        subst hw''
        have hq := Lib.hid (requal_any (HU.out.keeps (Qt.drewN wr nq).keeps) (HU'.out.keeps (Qt.drewN wr nq).keeps))
        by_cases e : ls.getD i [] = ls'.getD i []
        · rw [decide_eq_true e] at hq
          have HE2 := Lib.hid e
          clear e
          go_wp2_with (go_at_call 7; refine hq.out.mono ?_; rintro e W2 ⟨rfl, rfl⟩)
          go_roundw
          case rel =>
            refine ⟨i + 1, by omega, by go_num, Lib.hid (HK.out.trans (Qt.drewN wr nq).keeps), Lib.hid fun j hj => ?_⟩
            by_cases hji : j = i
            · subst hji; exact HE2.out
            · exact HE.out j (by omega)
          case measure => simp [intOf]; omega
        · rw [decide_eq_false e] at hq
          have hne : R = false := by rw [HR.out]; exact decide_eq_false (fun h => e (by rw [h]))
          subst hne
          clear e
          go_wp2_with (go_at_call 7; refine hq.out.mono ?_; rintro e W2 ⟨rfl, rfl⟩)
          go_ret
          exact ⟨by first | rfl | exact ret_bool (by simp), HK.out.trans (Qt.drewN wr nq).keeps⟩
      · have hall : R = true := by
          rw [HR.out]
          refine decide_eq_true (List.ext_getElem HLEN.out fun j h1 h2 => ?_)
          have := HE.out j (by omega)
          simpa [List.getD, h1, h2] using this
        subst hall
        go_wp2
        go_ret
        exact ⟨by first | rfl | exact ret_bool (by simp), HK.out⟩
end Go.Proofs.Ytcodpdpeklammaa
