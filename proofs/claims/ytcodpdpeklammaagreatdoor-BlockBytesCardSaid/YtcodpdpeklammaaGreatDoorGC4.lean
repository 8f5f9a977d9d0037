/- Reading a block, in plain Lean: its head, its transactions; what was written is read back. No condition. | Words added, targets, bits, subsidies and long division, in plain Lean. | Numbers of 256 bits: block's words as bytes again. | block's words: added, taken away. | block.Add: the sum of two numbers, the greatest one if it is beyond. | bytes.Compare on two rows of bytes; block.Compare: which of two numbers is less. -/
import Derived.Test.YtcodpdpeklammaaGreatDoorGC3
import Derived.Test.YtcodpdpeklammaaGreatDoorGB2
import Derived.Test.YtcodpdpeklammaaGreatDoorGA7
import Derived.Laws.Externs
import Derived.BigRegion
import Derived.Deep.RegionHeld3
import Derived.Deep.DeepCutAuto
import Derived.Lib.BytesEntry
namespace Go.Proofs.YtcodpdpeklammaaGreatDoor
set_option linter.unusedVariables false
set_option linter.unusedSimpArgs false
open Go Go.RowKit
structure HdD where
  ver : Int
  prev : List Int
  merkle : List Int
  time : Int
  bits : Int
  nonce : Int
def rdHead : Rdr HdD := rdBind (rdNum 4) (fun v => rdBind (rdTake 32) (fun p => rdBind (rdTake 32) (fun m => rdBind (rdNum 4) (fun t => rdBind (rdNum 4) (fun b => rdBind (rdNum 4) (fun n => rdOk ⟨toI32 v, p, m, t, b, n⟩))))))
/-- one transaction of a block: a text, read -/
def rdTxE : Rdr TxD := rdBind (rdList 100000) (fun part => match decTx part with
  | .error c => rdErr c
  | .ok d => rdOk d)
def rdBlkEnd (h : HdD) (txs : List TxD) : Rdr (HdD × List TxD) := fun r => if 0 < r.length then .error 3 else .ok ((h, txs), r)
def rdBlk : Rdr (HdD × List TxD) := rdBind rdHead (fun h => rdBind rdSize (fun n => if 10000 < n then rdErr 2 else rdBind (rdMany rdTxE n.toNat) (fun txs => rdBlkEnd h txs)))
def decBlk (l : List Int) : Except Int (HdD × List TxD) := if 1000000 < l.length then .error 2 else match rdBlk l with
  | .error e => .error e
  | .ok (x, _) => .ok x
theorem head_read {e e1 e2 e3 e4 e5 e6 : Int} {l l1 l2 l3 l4 l5 l6 p m : List Int} {v t b n : Int} (a1 : RfR (rdNum 4) e l v e1 l1) (a2 : RfR (rdTake 32) e1 l1 p e2 l2) (a3 : RfR (rdTake 32) e2 l2 m e3 l3) (a4 : RfR (rdNum 4) e3 l3 t e4 l4) (a5 : RfR (rdNum 4) e4 l4 b e5 l5) (a6 : RfR (rdNum 4) e5 l5 n e6 l6) :
    RfR rdHead e l ⟨toI32 v, p, m, t, b, n⟩ e6 l6 := by
  unfold rdHead; exact a1.bind (a2.bind (a3.bind (a4.bind (a5.bind (a6.bind RfR.ret)))))
theorem StP.rf {α : Type} {p : Rdr α} {e e' : Int} {l l' : List Int} {x : α} (h : StP p e l x e' l') : RfR p e l x e' l' := by
  rcases h with ⟨a, b, _⟩ | ⟨a, b, c⟩ | ⟨a, b, c, _⟩
  · exact .inl ⟨a, b⟩
  · exact .inr (.inl ⟨a, b, c⟩)
  · exact .inr (.inr ⟨a, b, c⟩)
/-- a head is read of 80 bytes and more, and else the end is met -/
theorem rdHead_short {l : List Int} (h : l.length < 80) : rdHead l = .error 4 := by
  have tk : ∀ (k : Nat) (x : List Int), rdTake k x = .error 4 ∨ (k ≤ x.length ∧ rdTake k x = .ok (x.take k, x.drop k)) := fun k x => by
    by_cases hx : x.length < k
    · exact .inl (by unfold rdTake; rw [if_pos hx])
    · exact .inr ⟨by omega, by unfold rdTake; rw [if_neg hx]⟩
  have nm : ∀ (k : Nat) (x : List Int), rdNum k x = .error 4 ∨ (k ≤ x.length ∧ rdNum k x = .ok (leV (x.take k), x.drop k)) := fun k x => by
    rcases tk k x with h | ⟨h1, h2⟩
    · exact .inl (by unfold rdNum; exact rdBind_err h)
    · exact .inr ⟨h1, by unfold rdNum; rw [rdBind_ok h2]; rfl⟩
  unfold rdHead
  rcases nm 4 l with e | ⟨k1, e⟩
  · exact rdBind_err e
  rw [rdBind_ok e]
  rcases tk 32 (l.drop 4) with e | ⟨k2, e⟩
  · exact rdBind_err e
  rw [rdBind_ok e]
  rcases tk 32 ((l.drop 4).drop 32) with e | ⟨k3, e⟩
  · exact rdBind_err e
  rw [rdBind_ok e]
  rcases nm 4 (((l.drop 4).drop 32).drop 32) with e | ⟨k4, e⟩
  · exact rdBind_err e
  rw [rdBind_ok e]
  rcases nm 4 ((((l.drop 4).drop 32).drop 32).drop 4) with e | ⟨k5, e⟩
  · exact rdBind_err e
  rw [rdBind_ok e]
  rcases nm 4 (((((l.drop 4).drop 32).drop 32).drop 4).drop 4) with e | ⟨k6, e⟩
  · exact rdBind_err e
  simp only [List.length_drop] at k6
  omega
/-- the head of 80 bytes -/
def headOf (l : List Int) : HdD := ⟨toI32 (leV (l.take 4)), (l.drop 4).take 32, (l.drop 36).take 32, leV ((l.drop 68).take 4), leV ((l.drop 72).take 4), leV ((l.drop 76).take 4)⟩
theorem rdHead_of {l : List Int} (h : 80 ≤ l.length) : rdHead l = .ok (headOf l, l.drop 80) := by
  have tk : ∀ (k : Nat) (x : List Int), k ≤ x.length → rdTake k x = .ok (x.take k, x.drop k) := fun k x hx => by unfold rdTake; rw [if_neg (by omega)]
  have nm : ∀ (k : Nat) (x : List Int), k ≤ x.length → rdNum k x = .ok (leV (x.take k), x.drop k) := fun k x hx => by unfold rdNum; rw [rdBind_ok (tk k x hx)]; rfl
  unfold rdHead
  rw [rdBind_ok (nm 4 l (by omega)), rdBind_ok (tk 32 _ (by simp; omega)), rdBind_ok (tk 32 _ (by simp; omega)), rdBind_ok (nm 4 _ (by simp; omega)), rdBind_ok (nm 4 _ (by simp; omega)), rdBind_ok (nm 4 _ (by simp; omega))]
  simp only [List.drop_drop, Nat.reduceAdd]
  rfl
theorem decBlk_big {l : List Int} (h : 1000000 < l.length) : decBlk l = .error 2 := by unfold decBlk; rw [if_pos h]
theorem decBlk_err {l : List Int} {c : Int} (h : ¬ 1000000 < l.length) (hd : rdBlk l = .error c) : decBlk l = .error c := by unfold decBlk; rw [if_neg h, hd]
theorem decBlk_ok {l r : List Int} {x : HdD × List TxD} (h : ¬ 1000000 < l.length) (hd : rdBlk l = .ok (x, r)) : decBlk l = .ok x := by unfold decBlk; rw [if_neg h, hd]
theorem blk_e1 {l : List Int} {c : Int} (h : rdHead l = .error c) : rdBlk l = .error c := by unfold rdBlk; exact rdBind_err h
theorem blk_e2 {l r : List Int} {c : Int} {h : HdD} (hh : rdHead l = .ok (h, r)) (h2 : rdSize r = .error c) : rdBlk l = .error c := by unfold rdBlk; rw [rdBind_ok hh]; exact rdBind_err h2
theorem blk_e3 {l r r2 : List Int} {n : Int} {h : HdD} (hh : rdHead l = .ok (h, r)) (h2 : rdSize r = .ok (n, r2)) (hn : 10000 < n) : rdBlk l = .error 2 := by unfold rdBlk; rw [rdBind_ok hh, rdBind_ok h2, if_pos hn]; rfl
def rdBlk2 (h : HdD) (n : Nat) : Rdr (HdD × List TxD) := rdBind (rdMany rdTxE n) (fun txs => rdBlkEnd h txs)
theorem blk_go {l r r2 : List Int} {n : Int} {h : HdD} (hh : rdHead l = .ok (h, r)) (h2 : rdSize r = .ok (n, r2)) (hn : ¬ 10000 < n) : rdBlk l = rdBlk2 h n.toNat r2 := by unfold rdBlk; rw [rdBind_ok hh, rdBind_ok h2, if_neg hn]; rfl
theorem blk2_err {h : HdD} {n : Nat} {r : List Int} {c : Int} (hm : rdMany rdTxE n r = .error c) : rdBlk2 h n r = .error c := rdBind_err hm
theorem blk2_left {h : HdD} {n : Nat} {r r2 : List Int} {txs : List TxD} (hm : rdMany rdTxE n r = .ok (txs, r2)) (hl : 0 < r2.length) : rdBlk2 h n r = .error 3 := by unfold rdBlk2; rw [rdBind_ok hm]; unfold rdBlkEnd; rw [if_pos hl]
theorem blk2_ok {h : HdD} {n : Nat} {r r2 : List Int} {txs : List TxD} (hm : rdMany rdTxE n r = .ok (txs, r2)) (hl : ¬ 0 < r2.length) : rdBlk2 h n r = .ok ((h, txs), r2) := by unfold rdBlk2; rw [rdBind_ok hm]; unfold rdBlkEnd; rw [if_neg hl]
theorem txe_e1 {r : List Int} {c : Int} (h : rdList 100000 r = .error c) : rdTxE r = .error c := by unfold rdTxE; exact rdBind_err h
theorem txe_e2 {r r2 part : List Int} {c : Int} (h : rdList 100000 r = .ok (part, r2)) (hd : decTx part = .error c) : rdTxE r = .error c := by unfold rdTxE; rw [rdBind_ok h, hd]; rfl
theorem txe_ok {r r2 part : List Int} {d : TxD} (h : rdList 100000 r = .ok (part, r2)) (hd : decTx part = .ok d) : rdTxE r = .ok (d, r2) := by unfold rdTxE; rw [rdBind_ok h, hd]; rfl
/-- byte i of three, the greatest first -/
def mB (m : Int) (i : Nat) : Int := m / 256 ^ (2 - i) % 256
theorem mB_byte (m : Int) (i : Nat) : Byte (mB m i) := ⟨by unfold mB; omega, by unfold mB; omega⟩
/-- the first k of the three bytes laid at place 32 - e -/
def expB (e : Nat) (m : Int) (k : Nat) : List Int := (List.range 32).map fun j => if 32 ≤ j + e ∧ j + e < 32 + k then mB m (j + e - 32) else 0
theorem expB_length (e : Nat) (m : Int) (k : Nat) : (expB e m k).length = 32 := by simp [expB]
theorem expB_getD (e : Nat) (m : Int) (k j : Nat) (h : j < 32) : (expB e m k).getD j 0 = if 32 ≤ j + e ∧ j + e < 32 + k then mB m (j + e - 32) else 0 := by
  simp [expB, List.getD, h]
theorem list_ext32 {a b : List Int} (ha : a.length = 32) (hb : b.length = 32) (h : ∀ j, j < 32 → a.getD j 0 = b.getD j 0) : a = b := by
  apply List.ext_getElem (by omega)
  intro j h1 h2
  have := h j (by omega)
  simpa [List.getD, h1, h2] using this
theorem expB_bytes (e : Nat) (m : Int) (k : Nat) : Bytes (expB e m k) := by
  intro x hx
  obtain ⟨j, _, rfl⟩ := List.mem_map.1 hx
  split
  · exact mB_byte _ _
  · exact ⟨by omega, by omega⟩
theorem expB_zero (e : Nat) (m : Int) : expB e m 0 = List.replicate 32 0 := by
  refine list_ext32 (expB_length ..) (by simp) (fun j h => ?_)
  rw [expB_getD _ _ _ _ h, if_neg (by omega), List.getD, List.getElem?_replicate, if_pos h]; rfl
theorem getD_set (l : List Int) (p j : Nat) (v : Int) (h : j < l.length) : (l.set p v).getD j 0 = if p = j then v else l.getD j 0 := by
  simp only [List.getD, List.getElem?_set]
  split <;> rename_i hp
  · subst hp; simp [h]
  · rfl
theorem expB_set (e : Nat) (m : Int) (k p : Nat) (h : p + e = 32 + k) (hp : p < 32) : (expB e m k).set p (mB m k) = expB e m (k + 1) := by
  refine list_ext32 (by simp [expB_length]) (expB_length ..) (fun j hj => ?_)
  rw [getD_set _ _ _ _ (by rw [expB_length]; exact hj), expB_getD _ _ _ _ hj, expB_getD _ _ _ _ hj]
  by_cases e1 : p = j
  · subst e1
    rw [if_pos rfl, if_pos (by omega), show p + e - 32 = k by omega]
  · rw [if_neg e1]
    by_cases e2 : 32 ≤ j + e ∧ j + e < 32 + k
    · rw [if_pos e2, if_pos (by omega)]
    · rw [if_neg e2, if_neg (by omega)]
theorem expB_out (e : Nat) (m : Int) (k : Nat) (h : 32 + k < e ∨ e ≤ k) : expB e m k = expB e m (k + 1) := by
  refine list_ext32 (expB_length ..) (expB_length ..) (fun j hj => ?_)
  rw [expB_getD _ _ _ _ hj, expB_getD _ _ _ _ hj]
  by_cases e2 : 32 ≤ j + e ∧ j + e < 32 + k
  · rw [if_pos e2, if_pos (by omega)]
  · rw [if_neg e2, if_neg (by omega)]
/-- does one of the first k bytes lie above all? -/
def expBad (e : Nat) (m : Int) (k : Nat) : Bool := (List.range k).any fun i => decide (32 + i < e) && mB m i != 0
theorem expBad_zero (e : Nat) (m : Int) : expBad e m 0 = false := rfl
theorem expBad_succ (e : Nat) (m : Int) (k : Nat) : expBad e m (k + 1) = (expBad e m k || (decide (32 + k < e) && mB m k != 0)) := by
  simp [expBad, List.range_succ]
theorem expBad_mono (e : Nat) (m : Int) {k k' : Nat} (h : k ≤ k') (hb : expBad e m k = true) : expBad e m k' = true := by
  obtain ⟨i, hi, hx⟩ := List.any_eq_true.1 hb
  exact List.any_eq_true.2 ⟨i, List.mem_range.2 (by have := List.mem_range.1 hi; omega), hx⟩
/-- bits as a number, whatever it is -/
def expand (x : Int) : Option (List Int) := if 8388608 ≤ x % 16777216 then none else if expBad (x / 16777216).toNat (x % 16777216) 3 = true then none else some (expB (x / 16777216).toNat (x % 16777216) 3)
/-- the greatest target -/
def limitB : List Int := 127 :: 255 :: 255 :: List.replicate 29 0
theorem limit_expand : expand 545259519 = some limitB := by decide +kernel
/-- bits as a target -/
def target (x : Int) : Option (List Int) := match expand x with
  | none => none
  | some n => if n = List.replicate 32 0 ∨ be limitB < be n then none else some n
/-- how many noughts stand at the head -/
def lead (l : List Int) : Nat := (l.takeWhile (· == 0)).length
/-- k bytes from place f on as a number -/
def mant (l : List Int) (f : Nat) : Nat → Int
  | 0 => 0
  | k + 1 => mant l f k * 256 + l.getD (f + k) 0
def bitsOf' (l : List Int) (f : Nat) : Int := if 8388608 ≤ mant l f 3 then (33 - (f : Int)) * 16777216 + mant l f 3 / 256 else (32 - (f : Int)) * 16777216 + mant l f 3
/-- a number's bits -/
def bitsOf (l : List Int) : Int := bitsOf' l (lead l)
theorem lead_le (l : List Int) : lead l ≤ l.length := by
  unfold lead
  induction l with
  | nil => simp
  | cons a r ih => simp only [List.takeWhile_cons]; split <;> simp; omega
theorem Bytes.get {l : List Int} (h : Bytes l) (j : Nat) : 0 ≤ l.getD j 0 ∧ l.getD j 0 < 256 := h.getD j
theorem mant_range {l : List Int} (h : Bytes l) (f : Nat) : 0 ≤ mant l f 3 ∧ mant l f 3 < 16777216 := by
  have h0 := h.get f; have h1 := h.get (f + 1); have h2 := h.get (f + 2)
  simp only [mant, Nat.add_zero] at *; omega
theorem be_cons (x : Int) (l : List Int) : be (x :: l) = x * 256 ^ l.length + be l := by
  rw [show x :: l = [x] ++ l from rfl, be_append]
  simp [be]
/-- the new coins of a height -/
def subsidy (h : Int) : Int := if h < 0 then 0 else 5000000000 / 2 ^ (h / 150).toNat
theorem pow2_gt (k : Nat) (h : 33 ≤ k) : (5000000000 : Int) / 2 ^ k = 0 := by
  apply Int.ediv_eq_zero_of_lt (by decide)
  obtain ⟨j, rfl⟩ : ∃ j, k = 33 + j := ⟨k - 33, by omega⟩
  rw [Int.pow_add]
  have : (1 : Int) ≤ 2 ^ j := by have : (0 : Int) < 2 ^ j := Int.pow_pos (by decide); omega
  have h3 : (2 : Int) ^ 33 * 1 ≤ 2 ^ 33 * 2 ^ j := Int.mul_le_mul_of_nonneg_left this (by decide)
  have h4 : (2 : Int) ^ 33 = 8589934592 := by decide
  omega
theorem subsidy_late (h : Int) (ht : 9600 ≤ h) : subsidy h = 0 := by
  unfold subsidy
  rw [if_neg (by omega), pow2_gt _ (by omega)]
theorem results_cell_tmpB {P : Program} {fn : Func} {p t : Tmp} {ty : TypeId} (h : fn.results = #[.cell p ty, .tmp t]) (tmps : Array Value) (w : World) (g off : Nat) (cs : List Value) (d : TypeDesc) (u : Value) (hu' : tmps.getD t undef = u)
    (hp : tmps.getD p undef = .pointer (some ⟨g, off, none⟩)) (hg : Row w g off cs)
    (hu : P.underlying ty = some d) (hd : (match d with | .struct _ | .array _ _ => true | _ => false) = true) (hi : (P.info? ty).map (·.size) = some cs.length) :
    (results fn tmps).run P w = .ok (.tuple #[.agg cs.toArray, u]) w := by
  have hp' : tmps[p]?.getD undef = .pointer (some ⟨g, off, none⟩) := by simpa using hp
  have ht' : tmps[t]?.getD undef = u := by simpa using hu'
  simp [results, h, hp', ht', asAddr, run_loadVar_at w g off ty cs d hg hu hd hi]
theorem toU8_lt {x y : Int} (hx : Byte x) (hy : Byte y) : (x.toNat.toUInt8 < y.toNat.toUInt8) = (x < y) := by
  obtain ⟨h0, h1⟩ := hx
  obtain ⟨h2, h3⟩ := hy
  obtain ⟨X, rfl⟩ := Int.eq_ofNat_of_zero_le h0
  obtain ⟨Y, rfl⟩ := Int.eq_ofNat_of_zero_le h2
  rw [UInt8.lt_iff_toNat_lt]
  simp only [Int.toNat_natCast]
  have : ∀ n : Nat, n < 256 → n.toUInt8.toNat = n := fun n hn => by
    simp [Nat.mod_eq_of_lt hn]
  rw [this X (by omega), this Y (by omega)]
  simp
theorem compare_be : ∀ {a b : List Int}, a.length = b.length → Bytes a → Bytes b → Lib.compareBytes (Lib.bytesOf a) (Lib.bytesOf b) = cmpZ (be a) (be b)
  | [], [], _, _, _ => by simp [Lib.bytesOf, Lib.compareBytes, cmpZ, be]
  | x :: a, y :: b, hl, ha, hb => by
    have hl' : a.length = b.length := by simpa using hl
    have ha' : Bytes a := fun z h => ha z (by simp [h])
    have hb' : Bytes b := fun z h => hb z (by simp [h])
    have ih := compare_be hl' ha' hb'
    have hx := ha x (by simp)
    have hy := hb y (by simp)
    have e : ∀ (z : Int) (l : List Int), Lib.bytesOf (z :: l) = z.toNat.toUInt8 :: Lib.bytesOf l := fun z l => rfl
    rw [e, e, Lib.compareBytes]
    simp only [toU8_lt hx hy, toU8_lt hy hx, ih]
    rw [be_cons, be_cons, hl']
    have h1 := be_range ha'
    have h2 := be_range hb'
    rw [hl'] at h1
    have hM : (0 : Int) ≤ 256 ^ b.length := Int.pow_nonneg (by decide)
    by_cases hlt : x < y
    · rw [if_pos hlt]
      have : (x + 1) * 256 ^ b.length ≤ y * 256 ^ b.length := Int.mul_le_mul_of_nonneg_right (by omega) hM
      rw [Int.add_mul, Int.one_mul] at this
      unfold cmpZ
      rw [if_pos (by omega)]
    · rw [if_neg hlt]
      by_cases hgt : y < x
      · rw [if_pos hgt]
        have : (y + 1) * 256 ^ b.length ≤ x * 256 ^ b.length := Int.mul_le_mul_of_nonneg_right (by omega) hM
        rw [Int.add_mul, Int.one_mul] at this
        unfold cmpZ
        rw [if_neg (by omega), if_pos (by omega)]
      · rw [if_neg hgt]
        obtain rfl : x = y := by omega
        simp only [cmpZ, Int.add_lt_add_iff_left]
  | [], _ :: _, h, _, _ => by simp at h
  | _ :: _, [], h, _, _ => by simp at h
theorem compare_run (w : World) (g1 o1 c1 g2 o2 c2 : Nat) (a b : List Int) (n : Nat) (hla : a.length = n) (hlb : b.length = n) (ha : Bytes a) (hb : Bytes b)
    (h1 : Row w g1 o1 (a.map (Value.int .u8))) (h2 : Row w g2 o2 (b.map (Value.int .u8))) :
    (callFunc 111 #[.slice (some ⟨g1, o1, none⟩) n c1, .slice (some ⟨g2, o2, none⟩) n c2]).run Tryz.prog w = .ok (.value (.int .i64 (cmpZ (be a) (be b)))) w := by
  have key : ∀ (g o : Nat) (l : List Int), l.length = n → Row w g o (l.map (Value.int .u8)) → (Extern.Bytes.loadBytes ⟨g, o, none⟩ n .empty).run Tryz.prog w = .ok ⟨(Lib.bytesOf l).toArray⟩ w := by
    intro g o l hl hr
    have := Lib.run_loadBytesX (P := Tryz.prog) w l ⟨g, o, none⟩ .empty (fun j x hj => by
      have e : (⟨g, o, none⟩ : Addr).add j = ⟨g, o + j, none⟩ := by unfold Addr.add; split <;> simp_all
      rw [e]
      exact (hr j (.int .u8 x) (by simp [hj])).1)
    rw [hl] at this
    rw [this]
    congr 1
    apply ByteArray.ext
    show (#[] : Array UInt8) ++ (Lib.bytesOf l).toArray = (Lib.bytesOf l).toArray
    simp
  rw [run_callFunc_extern Tryz.func111 (by kernel_rfl) (by kernel_rfl) (by kernel_rfl) (e := Extern.BytealgCompare.compare) (by kernel_rfl)]
  have hrun : (Extern.BytealgCompare.compare #[.slice (some ⟨g1, o1, none⟩) n c1, .slice (some ⟨g2, o2, none⟩) n c2]).run Tryz.prog w = .ok (.int .i64 (cmpZ (be a) (be b))) w := by
    change Sem.run _ (do pure (goInt (Extern.BytealgCompare.cmp (← Extern.Bytes.bytesOf (.slice (some ⟨g1, o1, none⟩) n c1)) (← Extern.Bytes.bytesOf (.slice (some ⟨g2, o2, none⟩) n c2))))) w = _
    simp only [Extern.Bytes.bytesOf, Sem.run_bind, Sem.run_pure, key _ _ _ hla h1, key _ _ _ hlb h2, Result.andThen]
    rw [Lib.cmp_eq]
    simp only [List.toList_toArray]
    rw [compare_be (hla.trans hlb.symm) ha hb]
    rfl
  rw [hrun]
  rfl
set_option maxRecDepth 100000 in
theorem bcompare_any (a b : List Int) (ha : Bytes a) (hb : Bytes b) (hla : a.length = 32) (hlb : b.length = 32) (w : World) :
    Calls Tryz.prog 46 #[.agg (a.map (Value.int .u8)).toArray, .agg (b.map (Value.int .u8)).toArray] w fun e w' => e = .returned (.int .i64 (cmpZ (be a) (be b))) ∧ Keeps w w' := by
  go_enter Tryz.func46, Tryz.ntmps46
  go_upto_region 1 with (fail)
  obtain ⟨p, q, W, hp, hq, hW, hk, hra, hrb, hs⟩ := two_rows w (a.map (Value.int .u8)) (b.map (Value.int .u8)) 51 51
  rw [← hW, ← hq, ← hp]
  clear hW hs hp hq
  have hcr := fun n => compare_run (W.drewN n) p 0 32 q 0 32 a b 32 hla hlb ha hb (hra.drewN n) (hrb.drewN n)
  have HK := Lib.hid hk
  clear hra hrb hk ha hb
  have hcall : ∀ n, Calls Tryz.prog 76 #[.slice (some ⟨p, 0, none⟩) 32 32, .slice (some ⟨q, 0, none⟩) 32 32] (W.drewN n) fun e w' => e = .returned (.int .i64 (cmpZ (be a) (be b))) ∧ W.drewN n = w' := by
    intro n
    have h2 := hcr n
    clear hcr
    generalize cmpZ (be a) (be b) = z at *
    generalize W.drewN n = W2 at *
    go_enter Tryz.func76, Tryz.ntmps76
    go_wp2
    go_ret
    exact ⟨rfl, rfl⟩
  have HC := Lib.hid hcall
  clear hcall hcr
  go_quiet ((go_at_call 76; first | exact s1 (HC.out _) | exact s2 (HC.out _) | exact q1 (HC.out _) | exact q2 (HC.out _)))
  go_wp2
  go_ret
  exact ⟨ret_int rfl, HK.out.trans (Qt.keeps (by repeat (first | exact Qt.refl _ | exact Qt.drewN _ _ | refine Qt.trans ?_ (Qt.drewN _ _))))⟩
end Go.Proofs.YtcodpdpeklammaaGreatDoor
