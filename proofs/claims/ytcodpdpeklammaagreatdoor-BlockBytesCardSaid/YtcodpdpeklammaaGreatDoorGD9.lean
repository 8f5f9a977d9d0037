/- What was written of a transaction is read back. No condition. | The bytes of a transaction are bytes; a cut one is in range. (Printed by gtxb.py.) | What was written of a block is read back. No condition. | A list of transactions that is read piece by piece. No condition. | block.Decode: what its walk needs. No condition. -/
import Derived.Test.YtcodpdpeklammaaGreatDoorGA3
import Derived.Test.YtcodpdpeklammaaGreatDoorGC1
import Derived.Test.YtcodpdpeklammaaGreatDoorGA8
import Derived.Test.YtcodpdpeklammaaGreatDoorGB8
import Derived.Test.YtcodpdpeklammaaGreatDoorGC9
import Derived.Test.YtcodpdpeklammaaGreatDoorGD8
namespace Go.Proofs.YtcodpdpeklammaaGreatDoor
set_option linter.unusedVariables false
set_option linter.unusedSimpArgs false
open Go Go.RowKit

def bareI (d : InD) : InD := { d with wit := [] }
structure InCod (d : InD) : Prop where
  hash : d.hash.length = 32
  index : 0 ≤ d.index ∧ d.index < 4294967296
  seq : 0 ≤ d.seq ∧ d.seq < 4294967296
  script : d.script.length ≤ 100000
  wits : d.wit.length ≤ 25000
  item : ∀ x ∈ d.wit, x.length ≤ 100000
structure OutCod (d : OutD) : Prop where
  value : -9223372036854775808 ≤ d.value ∧ d.value < 9223372036854775808
  script : d.script.length ≤ 100000
structure TxCod (d : TxD) : Prop where
  ver : -2147483648 ≤ d.ver ∧ d.ver < 2147483648
  lock : 0 ≤ d.lock ∧ d.lock < 4294967296
  ins : d.ins.length ≤ 25000
  outs : d.outs.length ≤ 25000
  each : ∀ x ∈ d.ins, InCod x
  eacho : ∀ x ∈ d.outs, OutCod x
theorem rdIn_app (d : InD) (r : List Int) (h : InCod d) : rdIn (inB d ++ r) = .ok (bareI d, r) := by
  unfold rdIn inB
  simp only [List.append_assoc]
  rw [rdBind_ok (rdTake_app _ _ 32 h.hash), rdBind_ok (rdNum_app _ 4 _ h.index.1 (by have := h.index.2; omega)), rdBind_ok (rdList_app _ _ _ (by have := h.script; omega) (by have := h.script; omega)), rdBind_ok (rdNum_app _ 4 _ h.seq.1 (by have := h.seq.2; omega))]
  rfl
theorem toI64_mod {v : Int} (h : -9223372036854775808 ≤ v ∧ v < 9223372036854775808) : toI64 (v % 18446744073709551616) = v := by unfold toI64; split <;> omega
theorem toI32_mod {v : Int} (h : -2147483648 ≤ v ∧ v < 2147483648) : toI32 (v % 4294967296) = v := by unfold toI32; split <;> omega
theorem rdOut_app (d : OutD) (r : List Int) (h : OutCod d) : rdOut (outB d ++ r) = .ok (d, r) := by
  unfold rdOut outB
  simp only [List.append_assoc]
  rw [rdBind_ok (rdNum_app _ 8 _ (by omega) (by omega)), rdBind_ok (rdList_app _ _ _ (by have := h.script; omega) (by have := h.script; omega)), toI64_mod h.value]
  rfl
theorem rdWit_app (d : InD) (r : List Int) (h : InCod d) : rdWit (bareI d) (witB d ++ r) = .ok (d, r) := by
  unfold rdWit witB
  rw [List.append_assoc, rdBind_ok (rdCount_app _ _ h.wits), rdBind_ok (rdMany_app (rdList 100000) textB _ d.wit r rfl (fun x hx r => rdList_app _ _ _ (by have := h.item x hx; omega) (by have := h.item x hx; omega)))]
  rfl
theorem rdWits_app (l : List InD) (h : ∀ x ∈ l, InCod x) : ∀ (i : Nat) (r : List Int), i ≤ l.length → rdWits (l.map bareI) i ((l.take i).flatMap witB ++ r) = .ok (l.take i, r)
  | 0, r, _ => rfl
  | i + 1, r, hi => by
    obtain ⟨d, hd⟩ : ∃ d, l[i]? = some d := ⟨_, List.getElem?_eq_getElem (show i < l.length by omega)⟩
    have e : l.take (i + 1) = l.take i ++ [d] := by rw [List.take_add_one, hd]; rfl
    have e2 : (l.map bareI).getD i ⟨[], 0, [], 0, []⟩ = bareI d := by simp [List.getD, hd]
    rw [rdWits, e, List.flatMap_append, List.append_assoc, rdBind_ok (rdWits_app l h i _ (by omega)), e2]
    have e3 : [d].flatMap witB ++ r = witB d ++ r := by simp
    rw [e3, rdBind_ok (rdWit_app d r (h d (List.mem_of_getElem? hd)))]
    rfl
theorem insMany_app (l : List InD) (r : List Int) (h : ∀ x ∈ l, InCod x) : rdMany rdIn l.length (l.flatMap inB ++ r) = .ok (l.map bareI, r) := by
  have e : l.flatMap inB = (l.map bareI).flatMap inB := by
    rw [List.flatMap_map]; rfl
  rw [e]
  refine rdMany_app rdIn inB _ (l.map bareI) r (by simp) (fun x hx r => ?_)
  obtain ⟨y, hy, rfl⟩ := List.mem_map.1 hx
  have hc := h y hy
  exact rdIn_app (bareI y) r ⟨hc.hash, hc.index, hc.seq, hc.script, Nat.zero_le _, fun z hz => by cases hz⟩
theorem rdRest_app (d : TxD) (second : Bool) (h : TxCod d) (hw : witnessedD d = second) (wb : List Int) (hb : wb = if second then d.ins.flatMap witB else []) (hbare : second = false → d.ins.map bareI = d.ins) :
    rdRest d.ver second d.ins.length (d.ins.flatMap inB ++ (outsB d.outs ++ (wb ++ leB d.lock 4))) = .ok (d, []) := by
  unfold rdRest outsB
  have hl : rdNum 4 (leB d.lock 4) = .ok (d.lock, []) := by
    have := rdNum_app d.lock 4 [] h.lock.1 (by have := h.lock.2; omega)
    rwa [List.append_nil] at this
  rw [rdBind_ok (insMany_app _ _ h.each)]
  simp only [List.append_assoc]
  rw [rdBind_ok (rdCount_app _ _ h.outs), rdBind_ok (rdMany_app rdOut outB _ d.outs _ rfl (fun x hx r => rdOut_app x r (h.eacho x hx)))]
  cases second
  · rw [if_neg (by simp)] at hb ⊢
    subst hb
    rw [List.nil_append, rdBind_ok (f := _) (show rdOk (d.ins.map bareI) (leB d.lock 4) = .ok (d.ins.map bareI, leB d.lock 4) from rfl), rdBind_ok hl, hbare rfl]
    simp
  · rw [if_pos rfl] at hb ⊢
    subst hb
    have := rdWits_app d.ins h.each d.ins.length (leB d.lock 4) (Nat.le_refl _)
    rw [List.take_length] at this
    rw [List.length_map, rdBind_ok this, rdBind_ok hl]
    have e : (⟨d.ver, d.ins, d.outs, d.lock⟩ : TxD) = d := rfl
    rw [e, hw]
    simp
theorem bare_plain {l : List InD} (h : ∀ x ∈ l, x.wit = []) : l.map bareI = l := by
  have : ∀ x ∈ l, bareI x = x := fun x hx => by
    have := h x hx
    cases x
    simp only at this
    subst this
    rfl
  exact (List.map_congr_left this).trans (List.map_id l)
theorem not_witnessed {d : TxD} (h : witnessedD d = false) : ∀ x ∈ d.ins, x.wit = [] := fun x hx => by
  unfold witnessedD at h
  have := List.any_eq_false.1 h x hx
  simpa using this
theorem rdTx_app (d : TxD) (h : TxCod d) (hne : d.ins ≠ []) : rdTx (encB d true) = .ok (d, []) := by
  have hpos : 0 < d.ins.length := List.length_pos_iff.2 hne
  unfold rdTx encB insB
  cases hw : witnessedD d
  · simp only [Bool.and_false, Bool.false_eq_true, if_false, List.append_nil, List.append_assoc]
    rw [rdBind_ok (rdNum_app _ 4 _ (by omega) (by omega)), rdBind_ok (rdCount_app _ _ h.ins), if_neg (by omega), toI32_mod h.ver]
    exact rdRest_app d false h hw [] (by simp) (fun _ => bare_plain (not_witnessed hw))
  · simp only [Bool.and_self, if_true, List.append_assoc]
    rw [rdBind_ok (rdNum_app _ 4 _ (by omega) (by omega))]
    have e0 : ∀ r, rdCount (0 :: r) = .ok (0, r) := fun r => by
      have := rdCount_app 0 r (by omega)
      rwa [show sizeB ((0 : Nat) : Int) = [0] from by unfold sizeB; simp] at this
    have e1 : ∀ r, rdNum 1 (1 :: r) = .ok (1, r) := fun r => by
      have := rdNum_app 1 1 r (by omega) (by omega)
      rwa [show leB 1 1 = [1] from by simp [leB]] at this
    simp only [List.cons_append, List.nil_append]
    rw [rdBind_ok (e0 _), if_pos rfl, rdBind_ok (e1 _), if_neg (by omega), rdBind_ok (rdCount_app _ _ h.ins), toI32_mod h.ver]
    exact rdRest_app d true h hw _ (by simp) (fun h => by cases h)
theorem decTx_app (d : TxD) (h : TxCod d) (hne : d.ins ≠ []) (hl : (encB d true).length ≤ 100000) : decTx (encB d true) = .ok d := by
  unfold decTx
  rw [if_neg (by omega), rdTx_app d h hne]
theorem bytesApp {a b : List Int} (ha : Bytes a) (hb : Bytes b) : Bytes (a ++ b) := fun x hx => by
  rcases List.mem_append.1 hx with h | h
  · exact ha x h
  · exact hb x h
theorem bytesFlat {α : Type} {f : α → List Int} {l : List α} (h : ∀ x ∈ l, Bytes (f x)) : Bytes (l.flatMap f) := fun x hx => by
  obtain ⟨y, hy, hxy⟩ := List.mem_flatMap.1 hx
  exact h y hy x hxy
theorem sizeB_bytesY (n : Int) (h : 0 ≤ n) : Bytes (sizeB n) := by
  unfold sizeB
  have hc : ∀ (a : Int) (l : List Int), Byte a → Bytes l → Bytes (a :: l) := fun a l h1 h2 x hx => by
    rcases List.mem_cons.1 hx with rfl | hx
    · exact h1
    · exact h2 x hx
  split
  · exact hc _ _ ⟨h, by omega⟩ (fun x hx => by cases hx)
  · split
    · exact hc _ _ ⟨by omega, by omega⟩ (leB_bytes _ _)
    · split
      · exact hc _ _ ⟨by omega, by omega⟩ (leB_bytes _ _)
      · exact hc _ _ ⟨by omega, by omega⟩ (leB_bytes _ _)
theorem textB_bytesY {l : List Int} (h : Bytes l) : Bytes (textB l) := bytesApp (sizeB_bytesY _ (by omega)) h
theorem RInsX.allY {S T R : Nat → Prop} {w : World} {v : Value} {l : List InD} (h : RInsX S T R w v l) : ∀ x ∈ l, x.Ok ∧ Bytes x.script ∧ ∀ u ∈ x.wit, Bytes u := by
  obtain ⟨cs, ps, h⟩ := h
  intro x hx
  obtain ⟨k, hk, e⟩ := List.getElem_of_mem hx
  have hp : ps[k]? = some (ps[k]'(by rw [h.plen]; exact hk)) := List.getElem?_eq_getElem _
  have h1 := (h.each k _ x hp (by rw [List.getElem?_eq_getElem hk, e])).1
  refine ⟨h1.ok, h1.script.bytes, fun u hu => ?_⟩
  obtain ⟨vs, hw⟩ := h1.wit
  obtain ⟨j, hj, e2⟩ := List.getElem_of_mem hu
  have hv : vs[j]? = some (vs[j]'(by rw [hw.len]; exact hj)) := List.getElem?_eq_getElem _
  exact (hw.each j _ u hv (by rw [List.getElem?_eq_getElem hj, e2])).bytes
theorem ROutsX.allY {S R : Nat → Prop} {w : World} {v : Value} {l : List OutD} (h : ROutsX S R w v l) : ∀ x ∈ l, Bytes x.script := by
  obtain ⟨cs, ps, h⟩ := h
  intro x hx
  obtain ⟨k, hk, e⟩ := List.getElem_of_mem hx
  have hp : ps[k]? = some (ps[k]'(by rw [h.plen]; exact hk)) := List.getElem?_eq_getElem _
  exact (h.each k _ x hp (by rw [List.getElem?_eq_getElem hk, e])).1.bytes
theorem RTx.bytesY {S T R : Nat → Prop} {w : World} {iv ov : Value} {d : TxD} (h : RTx S T R w iv ov d) (wit : Bool) : Bytes (encB d wit) := by
  have hI := h.ins.allY
  have hO := h.outs.allY
  have h1 : Bytes (insB d.ins) := bytesApp (sizeB_bytesY _ (by omega)) (bytesFlat fun x hx => bytesApp (bytesApp (bytesApp (hI x hx).1.hash (leB_bytes _ _)) (textB_bytesY (hI x hx).2.1)) (leB_bytes _ _))
  have h2 : Bytes (outsB d.outs) := bytesApp (sizeB_bytesY _ (by omega)) (bytesFlat fun x hx => bytesApp (leB_bytes _ _) (textB_bytesY (hO x hx)))
  have h3 : Bytes (d.ins.flatMap witB) := bytesFlat fun x hx => bytesApp (sizeB_bytesY _ (by omega)) (bytesFlat fun u hu => textB_bytesY ((hI x hx).2.2 u hu))
  have hm : Bytes (if (wit && witnessedD d) = true then [0, 1] else []) := by
    split
    · intro x hx; simp at hx; rcases hx with rfl | rfl <;> exact ⟨by omega, by omega⟩
    · intro x hx; cases hx
  have hw : Bytes (if (wit && witnessedD d) = true then d.ins.flatMap witB else []) := by
    split
    · exact h3
    · intro x hx; cases hx
  unfold encB
  exact bytesApp (bytesApp (bytesApp (bytesApp (bytesApp (leB_bytes _ _) hm) h1) h2) hw) (leB_bytes _ _)
theorem enc_few_len (d : TxD) (h : d.ins.all (fun i => i.hash.length == 32) = true) (wit : Bool) : (encB (fewD 4 200 d) wit).length ≤ 80000 := by
  have ht : ∀ l : List Int, l.length ≤ 600 → (textB l).length ≤ 609 := fun l hl => by
    have := sizeB_len (l.length : Int)
    unfold textB; rw [List.length_append]; omega
  have h1 : ((fewD 4 200 d).ins.flatMap inB).length ≤ 10 * 649 := by
    refine Nat.le_trans (flat_le inB 649 _ (fun x hx => ?_)) (Nat.mul_le_mul_right _ (by simp [fewD]; omega))
    obtain ⟨y, hy, rfl⟩ := List.mem_map.1 hx
    have h32 : y.hash.length = 32 := by have := List.all_eq_true.1 h y (List.mem_of_mem_take hy); simpa using this
    have := ht (y.script.take 200) (by simp; omega)
    unfold inB trimIn
    simp only [List.length_append, leB_length]
    omega
  have h2 : ((fewD 4 200 d).outs.flatMap outB).length ≤ 10 * 617 := by
    refine Nat.le_trans (flat_le outB 617 _ (fun x hx => ?_)) (Nat.mul_le_mul_right _ (by simp [fewD]; omega))
    obtain ⟨y, hy, rfl⟩ := List.mem_map.1 hx
    have := ht (y.script.take 200) (by simp; omega)
    unfold outB trimOut
    simp only [List.length_append, leB_length]
    omega
  have h3 : ((fewD 4 200 d).ins.flatMap witB).length ≤ 10 * 6099 := by
    refine Nat.le_trans (flat_le witB 6099 _ (fun x hx => ?_)) (Nat.mul_le_mul_right _ (by simp [fewD]; omega))
    obtain ⟨y, hy, rfl⟩ := List.mem_map.1 hx
    have hs := sizeB_len ((trimIn 4 200 y).wit.length : Int)
    have hw : ((trimIn 4 200 y).wit.flatMap textB).length ≤ 10 * 609 := by
      refine Nat.le_trans (flat_le textB 609 _ (fun z hz => ?_)) (Nat.mul_le_mul_right _ (by simp [trimIn]; omega))
      obtain ⟨q, hq, rfl⟩ := List.mem_map.1 hz
      exact ht _ (by simp; omega)
    unfold witB
    rw [List.length_append]
    omega
  have s1 := sizeB_len ((fewD 4 200 d).ins.length : Int)
  have s2 := sizeB_len ((fewD 4 200 d).outs.length : Int)
  unfold encB insB outsB
  simp only [List.length_append, leB_length]
  by_cases hc : (wit && witnessedD (fewD 4 200 d)) = true
  · rw [if_pos hc, if_pos hc]; simp only [List.length_cons, List.length_nil]; omega
  · rw [if_neg hc, if_neg hc]; simp only [List.length_nil]; omega
theorem cod_few {S T R : Nat → Prop} {w : World} {iv ov : Value} (d : TxD) (h : RTx S T R w iv ov (fewD 4 200 d)) : TxCod (fewD 4 200 d) := by
  have hI := h.ins.allY
  refine ⟨h.ver, h.lock, by simp [fewD]; omega, by simp [fewD]; omega, fun x hx => ?_, fun x hx => ?_⟩
  · obtain ⟨y, hy, e⟩ := List.mem_map.1 (show x ∈ (d.ins.take 4).map (trimIn 4 200) from hx)
    have hok := (hI x hx).1
    subst e
    refine ⟨hok.hashLen, hok.index, hok.seq, by simp [trimIn]; omega, by simp [trimIn]; omega, fun z hz => ?_⟩
    obtain ⟨q, hq, rfl⟩ := List.mem_map.1 (show z ∈ (y.wit.take 4).map (·.take 200) from hz)
    simp; omega
  · obtain ⟨y, hy, e⟩ := List.mem_map.1 (show x ∈ (d.outs.take 4).map (trimOut 200) from hx)
    have hv : I64 x.value := by
      obtain ⟨cs, ps, ho⟩ := h.outs
      obtain ⟨k, hk, e2⟩ := List.getElem_of_mem hx
      have hp : ps[k]? = some (ps[k]'(by rw [ho.plen]; exact hk)) := List.getElem?_eq_getElem _
      exact (ho.each k _ x hp (by rw [List.getElem?_eq_getElem hk, e2])).2.1
    subst e
    exact ⟨hv, by simp [trimOut]; omega⟩
/-- a head's bytes -/
def hdB (h : HdD) : List Int := headB h.ver h.prev h.merkle h.time h.bits h.nonce
theorem hdB_len {h : HdD} (ok : HdOk h) : (hdB h).length = 80 := by unfold hdB headB; simp [leB_length, ok.prevLen, ok.merkleLen]
theorem hdB_bytes {h : HdD} (ok : HdOk h) : Bytes (hdB h) := headB_bytes _ _ _ _ _ _ ok.prev ok.merkle
theorem rdHead_app (h : HdD) (ok : HdOk h) (r : List Int) : rdHead (hdB h ++ r) = .ok (h, r) := by
  have hv := ok.ver; have ht := ok.time; have hb := ok.bits; have hn := ok.nonce
  obtain ⟨v0, v1⟩ := hv
  obtain ⟨t0, t1⟩ := ht
  obtain ⟨b0, b1⟩ := hb
  obtain ⟨n0, n1⟩ := hn
  unfold rdHead hdB headB
  simp only [List.append_assoc]
  rw [rdBind_ok (rdNum_app _ 4 _ (by omega) (by omega)), rdBind_ok (rdTake_app _ _ 32 ok.prevLen), rdBind_ok (rdTake_app _ _ 32 ok.merkleLen), rdBind_ok (rdNum_app _ 4 _ t0 (by omega)), rdBind_ok (rdNum_app _ 4 _ b0 (by omega)), rdBind_ok (rdNum_app _ 4 _ n0 (by omega)), toI32_mod ⟨by omega, by omega⟩]
  rfl
theorem headOf_app (h : HdD) (ok : HdOk h) : headOf (hdB h) = h := by
  have h1 := rdHead_app h ok []
  rw [List.append_nil] at h1
  have h2 := rdHead_of (l := hdB h) (by rw [hdB_len ok]; omega)
  rw [h1] at h2
  injection h2 with h2
  exact (Prod.mk.inj h2).1.symm
theorem rdTxE_app (d : TxD) (h : TxCod d) (hne : d.ins ≠ []) (hl : (encB d true).length ≤ 80000) (r : List Int) : rdTxE (txB d ++ r) = .ok (d, r) := by
  unfold txB
  exact txe_ok (rdList_app _ _ _ (by omega) (by omega)) (decTx_app d h hne (by omega))
theorem txB_few {d : TxD} (hl : (encB d true).length ≤ 80000) : (txB d).length ≤ 80009 := by
  have := sizeB_len ((encB d true).length : Int)
  unfold txB textB
  rw [List.length_append]; omega
theorem blkB_few {hb : List Int} {D : List TxD} (h80 : hb.length = 80) (h12 : D.length ≤ 12) (hl : ∀ d ∈ D, (encB d true).length ≤ 80000) : (blkB hb D).length ≤ 1000000 := by
  have h1 : (D.flatMap txB).length ≤ D.length * 80009 := flat_le txB 80009 _ (fun x hx => txB_few (hl x hx))
  have h2 := sizeB_len (D.length : Int)
  have h3 : D.length * 80009 ≤ 12 * 80009 := Nat.mul_le_mul_right _ h12
  unfold blkB
  rw [List.length_append, List.length_append]
  omega
theorem decBlk_app (h : HdD) (ok : HdOk h) (D : List TxD) (h12 : D.length ≤ 12) (hc : ∀ d ∈ D, TxCod d) (hl : ∀ d ∈ D, (encB d true).length ≤ 80000) (hne : ∀ d ∈ D, d.ins ≠ []) : decBlk (blkB (hdB h) D) = .ok (h, D) := by
  have hlen := blkB_few (hdB_len ok) h12 hl
  refine decBlk_ok (r := []) (by omega) ?_
  unfold blkB
  rw [List.append_assoc]
  rw [blk_go (rdHead_app h ok _) (rdSize_app _ _ (by omega) (by omega)) (by omega), Int.toNat_natCast]
  have hm := rdMany_app rdTxE txB D.length D [] rfl (fun x hx r => rdTxE_app x (hc x hx) (hne x hx) (hl x hx) r)
  rw [List.append_nil] at hm
  exact blk2_ok hm (by simp)
/-- a list of transactions made from base on: its row may be appended to, its transactions lie elsewhere -/
structure GotTs (base : Nat) (W : World) (v : Value) (l : List TxD) (cs : List Value) (ps : List (Value × Value)) : Prop where
  buf : Buf W 4 v l.length cs
  new : ∀ g, v.ownBlock = some g → base ≤ g
  plen : ps.length = l.length
  each : ∀ (i : Nat) (p : Value × Value) (d : TxD), ps[i]? = some p → l[i]? = some d → RTx (ButOwn base W v) (ButOwn base W v) (ButOwn base W v) W p.1 p.2 d ∧ (cs.drop (i * 4)).take 4 = txCells d p.1 p.2
variable {base : Nat}
theorem GotTs.nil (base : Nat) (W : World) : GotTs base W (.slice none 0 0) [] [] [] := ⟨Buf.nil _ _, fun g h => by simp [Value.ownBlock] at h, rfl, fun i p d h => by simp at h⟩
theorem GotTs.any {W : World} {v : Value} {l : List TxD} {cs : List Value} {ps : List (Value × Value)} (h : GotTs base W v l cs ps) : ∃ a cap, v = .slice a l.length cap := by
  obtain ⟨a, cap, h1, _⟩ := h.buf.any
  exact ⟨a, cap, h1⟩
theorem GotTs.chg {X : Nat → Prop} {W W' : World} {v : Value} {l : List TxD} {cs : List Value} {ps : List (Value × Value)} (h : GotTs base W v l cs ps) (hc : Chg X W W') (hx : ∀ k, base ≤ k → ¬ X k) : GotTs base W' v l cs ps :=
  ⟨h.buf.chg hc (fun k e => hx k (h.new k e)), h.new, h.plen, fun i p d a b => ⟨((h.each i p d a b).1.chg hc (fun g hg => hx g hg.1) (fun g hg => hx g hg.1) (fun g hg => hx g hg.1)).mono (ButOwn.grow hc.size) (ButOwn.grow hc.size) (ButOwn.grow hc.size), (h.each i p d a b).2⟩⟩
theorem GotTs.txs {W : World} {v : Value} {l : List TxD} {cs : List Value} {ps : List (Value × Value)} (h : GotTs base W v l cs ps) (hs : l.length * 64 ≤ 140737488355328) : RTxs (Btw base W.heap.size) (Btw base W.heap.size) (Btw base W.heap.size) W v l :=
  ⟨cs, ps, h.buf.rd, h.plen, fun i p d a b => ⟨(h.each i p d a b).1.mono (fun _ x => ⟨x.1, x.2.1⟩) (fun _ x => ⟨x.1, x.2.1⟩) (fun _ x => ⟨x.1, x.2.1⟩), (h.each i p d a b).2⟩, hs⟩
/-- what tx.Decode yields is a transaction of new blocks -/
theorem got_btw {b n : Nat} {W : World} {iv ov : Value} {d : TxD} (hv : I32 d.ver) (hl : U32 d.lock) (hi : GotI b n W iv d.ins) (ho : GotO b n W ov d.outs) : RTx (Btw b n) (Btw b n) (Btw b n) W iv ov d := ⟨hv, hl, hi.ins, ho.1⟩
theorem GotTs.after {W W1 w2 : World} {v v' iv ov : Value} {l : List TxD} {cs : List Value} {ps : List (Value × Value)} {d : TxD} (h : GotTs base W v l cs ps) (hb0 : base ≤ W.heap.size) (hk : Keeps W W1) {N : Nat} (hN : N ≤ W1.heap.size) (hd : RTx (Btw W.heap.size N) (Btw W.heap.size N) (Btw W.heap.size N) W1 iv ov d)
    (hb : Buf w2 4 v' (l.length + 1) (cs ++ txCells d iv ov)) (hc : Chg (fun k => v.ownBlock = some k) W1 w2) (hs : SameOrNew W1 v v') : GotTs base w2 v' (l ++ [d]) (cs ++ txCells d iv ov) (ps ++ [(iv, ov)]) := by
  have hcl : cs.length = l.length * 4 := h.buf.1
  have hvl : ∀ g, v.ownBlock = some g → g < W.heap.size := fun g e => h.buf.lt e
  have hw := hk.size
  have hcs := hc.size
  have hnew : ∀ g, ButOwn base W1 v g → ButOwn base w2 v' g := fun g hg => by
    refine ⟨hg.1, Nat.lt_of_lt_of_le hg.2.1 hcs, ?_⟩
    rcases hs with e | ⟨g', e1, e2⟩
    · rw [e]; exact hg.2.2
    · rw [e1]; intro e; cases e; have := hg.2.1; omega
  have hown : ∀ g, Btw W.heap.size N g → ButOwn base W1 v g := fun g hg => by
    obtain ⟨h1, h2⟩ := hg
    exact ⟨by omega, by omega, fun e => by have := hvl g e; omega⟩
  refine ⟨by rw [List.length_append]; exact hb, ?_, by simp [h.plen], ?_⟩
  · intro g hg
    rcases hs with e | ⟨g', e1, e2⟩
    · exact h.new g (by rw [← e]; exact hg)
    · rw [hg] at e1; cases e1; omega
  · intro i p x hp hx
    by_cases hi : i < l.length
    · have hip : i < ps.length := by rw [h.plen]; exact hi
      rw [List.getElem?_append_left hip] at hp
      rw [List.getElem?_append_left hi] at hx
      obtain ⟨e1, e2⟩ := h.each i p x hp hx
      refine ⟨(((e1.keeps hk).mono (ButOwn.grow hw) (ButOwn.grow hw) (ButOwn.grow hw)).chg hc (fun g hg e => hg.2.2 e) (fun g hg e => hg.2.2 e) (fun g hg e => hg.2.2 e)).mono hnew hnew hnew, ?_⟩
      rw [← e2, List.drop_append_of_le_length (by omega), List.take_append_of_le_length (by simp; omega)]
    · have hi' : i = l.length := by
        have := (List.getElem?_eq_some_iff.1 hx).1
        simp at this; omega
      subst hi'
      rw [List.getElem?_append_right (by rw [h.plen]; exact Nat.le_refl _), h.plen] at hp
      rw [List.getElem?_append_right (Nat.le_refl _)] at hx
      simp at hp hx
      subst hp hx
      refine ⟨((hd.mono hown hown hown).chg hc (fun g hg e => hg.2.2 e) (fun g hg e => hg.2.2 e) (fun g hg e => hg.2.2 e)).mono hnew hnew hnew, ?_⟩
      rw [List.drop_append, List.drop_eq_nil_of_le (by omega), hcl, Nat.sub_self, List.drop_zero, List.nil_append, List.take_of_length_le]
      exact Nat.le_refl _
/-- a block's cells -/
def blkCells (h : HdD) (tv : Value) : List Value := hdCells h ++ [tv]
theorem blkCells_len {h : HdD} (tv : Value) (h1 : h.prev.length = 32) (h2 : h.merkle.length = 32) : (blkCells h tv).length = 69 := by simp [blkCells, hdCells_len h1 h2]
theorem blkCells_one (h : HdD) (a : Option Addr) (n c : Nat) : ∀ v ∈ blkCells h (.slice a n c), v.oneCell' = true := by
  intro v hv
  rcases List.mem_append.1 hv with hv | hv
  · exact hdCells_one h v hv
  · rw [List.mem_singleton.1 hv]; rfl
theorem bd_sz_blk {h : HdD} (tv : Value) (h1 : h.prev.length = 32) (h2 : h.merkle.length = 32) : (Tryz.prog.info? 29).map (·.size) = some (blkCells h tv).length := by rw [blkCells_len tv h1 h2]; kernel_rfl
theorem built_blk0 : Tryz.prog.built 29 [] = some (blkCells (hd0 0) (.slice none 0 0)).toArray := by kernel_rfl
theorem blk_at68 {w : World} {q : Nat} {h : HdD} {tv : Value} (hr : Row w q 0 (blkCells h tv)) (h1 : h.prev.length = 32) (h2 : h.merkle.length = 32) : w.cell? ⟨q, 68, none⟩ = some tv ∧ w.frozen? ⟨q, 68, none⟩ = false := by
  have := hr 68 tv (by unfold blkCells; rw [List.getElem?_append_right (by rw [hdCells_len h1 h2]; omega), hdCells_len h1 h2]; rfl)
  simpa using this
theorem blk_set68 {h : HdD} (tv tv' : Value) (h1 : h.prev.length = 32) (h2 : h.merkle.length = 32) : (blkCells h tv).set 68 tv' = blkCells h tv' := by
  unfold blkCells
  rw [List.set_append_right _ _ (by rw [hdCells_len h1 h2]; omega), hdCells_len h1 h2]; rfl
end Go.Proofs.YtcodpdpeklammaaGreatDoor
namespace Go.Proofs.YtcodpdpeklammaaGreatDoor
set_option linter.unusedVariables false
set_option linter.unusedSimpArgs false
open Go Go.RowKit
def SizeS (B g : Nat) (e : Int) (l : List Int) (w : World) (r : Ending) (W' : World) : Prop :=
  Chg (· = g) w W' ∧ ∃ x : Nat, ∃ v' e' l', r = .returned (.int .u64 x) ∧ x ≤ 33554432 ∧ RdAt B W' g v' e' l' ∧ RfR rdSize e l x e' l' ∧ (e' ≠ 0 → x = 0)
theorem size_s {B : Nat} (g : Nat) (v : Value) (e : Int) (l : List Int) (w : World) (h : RdAt B w g v e l) (hB : B ≤ w.heap.size) (hg : g < w.heap.size) :
    Calls Tryz.prog 36 #[.pointer (some ⟨g, 0, none⟩)] w (SizeS B g e l w) := by
  have hby := h.bytes
  refine (rdr_size_any g v e l w h hB hg).mono ?_
  rintro r W' ⟨hc, hcase⟩
  refine ⟨hc, ?_⟩
  rcases hcase with ⟨h0, rfl, hr⟩ | ⟨rfl, x, val, v', l', hp, rfl, rfl, hr⟩ | ⟨rfl, c, hp, rfl, hr⟩
  · exact ⟨0, v, e, l, rfl, by omega, hr, .inl ⟨h0, rfl⟩, fun _ => rfl⟩
  · obtain ⟨a1, a2, _⟩ := rdSize_inv hby hp
    obtain ⟨x, rfl⟩ := Int.eq_ofNat_of_zero_le a1
    exact ⟨x, v', 0, l', rfl, by omega, hr, .inr (.inl ⟨rfl, rfl, hp⟩), fun h => absurd rfl h⟩
  · exact ⟨0, v, c, l, rfl, by omega, hr, .inr (.inr ⟨rfl, rdSize_err hp, hp⟩), fun _ => rfl⟩
theorem blk_sz {l l1 l2 : List Int} {hd : HdD} {e1 e2 x : Int} (h1 : RfR rdHead 0 l hd e1 l1) (h2 : RfR rdSize e1 l1 x e2 l2) :
    (e2 ≠ 0 ∧ rdBlk l = .error e2) ∨ (e2 = 0 ∧ e1 = 0 ∧ rdHead l = .ok (hd, l1) ∧ rdSize l1 = .ok (x, l2)) := by
  rcases h1 with ⟨h, _⟩ | ⟨_, rfl, h1⟩ | ⟨_, hn, h1⟩
  · exact absurd rfl h
  · rcases h2 with ⟨h, _⟩ | ⟨_, rfl, h2⟩ | ⟨_, hn, h2⟩
    · exact absurd rfl h
    · exact .inr ⟨rfl, rfl, h1, h2⟩
    · exact .inl ⟨hn, blk_e2 h1 h2⟩
  · rcases h2 with ⟨_, rfl⟩ | ⟨h, _⟩ | ⟨h, _⟩
    · exact .inl ⟨hn, blk_e1 h1⟩
    · exact absurd h hn
    · exact absurd h hn
theorem built_blk_eq (parts : List (Nat × Value)) : Tryz.prog.built 29 parts = Instr.fill (([(0, 68), (68, 1)] : List (Nat × Nat)).toArray[·]?) (blkCells (hd0 0) (.slice none 0 0)).toArray parts := by kernel_rfl
theorem built_blk {h : HdD} (h1 : h.prev.length = 32) (h2 : h.merkle.length = 32) : Tryz.prog.built 29 [(0, .agg (hdCells h).toArray)] = some (blkCells h (.slice none 0 0)).toArray := by
  rw [built_blk_eq]
  have hl := hdCells_len h1 h2
  have hl0 : (hdCells (hd0 0)).length = 68 := hdCells_len rfl rfl
  have e := fill_at (([(0, 68), (68, 1)] : List (Nat × Nat)).toArray[·]?) [] (hdCells (hd0 0)) [Value.slice none 0 0] (hdCells h) 0 (.agg (hdCells h).toArray) [] rfl (by rw [hl, hl0]) (by rw [hl]; rfl)
  rw [List.nil_append, List.nil_append] at e
  unfold blkCells
  rw [e]; rfl
/-- what block.Decode does -/
def BkDecP (l : List Int) (w : World) (r : Ending) (W : World) : Prop :=
  Keeps w W ∧ ((∃ h txs tv base, decBlk l = .ok (h, txs) ∧ r = .returned (.tuple #[.agg (blkCells h tv).toArray, .int .i64 0]) ∧ HdOk h ∧ w.heap.size ≤ base ∧ RTxs (Btw base W.heap.size) (Btw base W.heap.size) (Btw base W.heap.size) W tv txs) ∨
    (∃ c, decBlk l = .error c ∧ c ≠ 0 ∧ r = .returned (.tuple #[.agg (blkCells (hd0 0) (.slice none 0 0)).toArray, .int .i64 c])))
/-- block.Decode's memory in its loop -/
structure BkL (B base p q g : Nat) (w W : World) (v : Value) (e : Int) (l : List Int) (h : HdD) (tv : Value) (xs : List TxD) (cs : List Value) (ps : List (Value × Value)) : Prop where
  keeps : Keeps w W
  ord : w.heap.size ≤ p ∧ p < g ∧ g < B ∧ B ≤ q ∧ q < base ∧ base ≤ W.heap.size
  res : Row W p 0 (blkCells (hd0 0) (.slice none 0 0))
  loc : Row W q 0 (blkCells h tv)
  rd : RdAt B W g v e l
  got : GotTs base W tv xs cs ps
variable {B base p q g : Nat} {w W W' : World} {v v' : Value} {e e' : Int} {l l' : List Int} {h : HdD} {tv tv' : Value} {xs xs' : List TxD} {cs cs' : List Value} {ps ps' : List (Value × Value)}
theorem BkL.read (s : BkL B base p q g w W v e l h tv xs cs ps) (hc : Chg (· = g) W W') (hr : RdAt B W' g v' e' l') : BkL B base p q g w W' v' e' l' h tv xs cs ps := by
  have o := s.ord
  have hs := hc.size
  exact ⟨keeps_chg s.keeps hc (by omega), by omega, s.res.chg hc (by omega), s.loc.chg hc (by omega), hr, s.got.chg hc (fun k hk e => by omega)⟩
theorem BkL.keep (s : BkL B base p q g w W v e l h tv xs cs ps) (hk : Keeps W W') : BkL B base p q g w W' v e l h tv xs cs ps := by
  have o := s.ord
  have hs := hk.size
  exact ⟨s.keeps.trans hk, by omega, s.res.keeps hk, s.loc.keeps hk, s.rd.keeps hk, s.got.chg (hk.chg (fun _ => False)) (fun _ _ h => h)⟩
theorem BkL.size (s : BkL B base p q g w W v e l h tv xs cs ps) : B ≤ W.heap.size ∧ g < W.heap.size := by
  have o := s.ord
  omega
theorem BkL.appended {W1 w9 : World} {v9 iv ov : Value} {d : TxD} {N : Nat} (s : BkL B base p q g w W v e l h tv xs cs ps) (h1 : h.prev.length = 32) (h2 : h.merkle.length = 32) (hk : Keeps W W1) (hN : N ≤ W1.heap.size) (hd : RTx (Btw W.heap.size N) (Btw W.heap.size N) (Btw W.heap.size N) W1 iv ov d)
    (hb : Buf w9 4 v9 (xs.length + 1) (cs ++ txCells d iv ov)) (hc : Chg (fun k => tv.ownBlock = some k) W1 w9) (hs : SameOrNew W1 tv v9) :
    BkL B base p q g w (w9.setCell ⟨q, 68, none⟩ v9) v e l h v9 (xs ++ [d]) (cs ++ txCells d iv ov) (ps ++ [(iv, ov)]) := by
  have o := s.ord
  have hks := hk.size
  have hcs := hc.size
  have hnew : ∀ k, tv.ownBlock = some k → base ≤ k := s.got.new
  have hnp : ∀ k, k < base → ¬ tv.ownBlock = some k := fun k hk e => by have := hnew k e; omega
  have hg9 := s.got.after (by omega) hk hN hd hb hc hs
  have hq : Chg (· = q) w9 (w9.setCell ⟨q, 68, none⟩ v9) := Chg.cell q 68 _
  have hkw : Keeps w w9 := Below.trans (s.keeps.trans hk) (hc.below (s.keeps.trans hk).size (fun k hk2 e => by have := hnew k e; omega))
  have hloc : Row w9 q 0 (blkCells h tv) := (s.loc.keeps hk).chg hc (hnp q (by omega))
  have hset := hloc.set 68 (by rw [blkCells_len _ h1 h2]; omega) v9
  rw [Nat.zero_add, blk_set68 _ _ h1 h2] at hset
  refine ⟨keeps_chg hkw hq (by omega), ?_, ((s.res.keeps hk).chg hc (hnp p (by omega))).chg hq (by omega), hset, ?_, hg9.chg hq (fun k hk e => by omega)⟩
  · have := hq.size; omega
  · exact ((s.rd.keeps hk).far hc (fun k e => by have := hnew k e; omega) (hnp g (by omega))).far hq (fun k e => by omega) (by omega)
end Go.Proofs.YtcodpdpeklammaaGreatDoor
