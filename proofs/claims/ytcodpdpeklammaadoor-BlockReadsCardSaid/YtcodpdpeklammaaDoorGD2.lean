/- Numbers of 256 bits: block's words as bytes again. | block's words: added, taken away. | block.Add: the sum of two numbers, the greatest one if it is beyond. | bytes.Compare on two rows of bytes; block.Compare: which of two numbers is less. -/
import Derived.Test.YtcodpdpeklammaaDoorGB5
import Derived.Test.YtcodpdpeklammaaDoorGD1
import Derived.Test.YtcodpdpeklammaaDoorGA9
import Derived.Laws.Externs
import Derived.BigRegion
import Derived.Deep.RegionHeld3
import Derived.Deep.DeepCutAuto
import Derived.Lib.BytesEntry
namespace Go.Proofs.YtcodpdpeklammaaDoor
set_option linter.unusedVariables false
set_option linter.unusedSimpArgs false
open Go Go.RowKit

theorem words_getD (v : Int) (k : Nat) (hk : k < 4) : (words v).getD k 0 = v / 256 ^ (8 * k) % 18446744073709551616 := by
  have : k = 0 ∨ k = 1 ∨ k = 2 ∨ k = 3 := by omega
  rcases this with rfl | rfl | rfl | rfl
  · simp [words]
  · rfl
  · rfl
  · rfl
theorem words_byte (v : Int) (i : Nat) (hi : i < 32) : (words v).getD (3 - i / 8) 0 / 2 ^ (56 - 8 * (i % 8)) % 256 = (toB 32 v).getD i 0 := by
  rw [words_getD _ _ (by omega), toB_getD _ _ _ hi]
  have e : 32 - 1 - i = 8 * (3 - i / 8) + (7 - i % 8) := by omega
  rw [e, Int.pow_add, ← Int.ediv_ediv_of_nonneg (Int.pow_nonneg (by decide))]
  generalize v / 256 ^ (8 * (3 - i / 8)) = u
  have hr : i % 8 = 0 ∨ i % 8 = 1 ∨ i % 8 = 2 ∨ i % 8 = 3 ∨ i % 8 = 4 ∨ i % 8 = 5 ∨ i % 8 = 6 ∨ i % 8 = 7 := by omega
  rcases hr with hr | hr | hr | hr | hr | hr | hr | hr <;> rw [hr] <;> simp only [Nat.mul_zero, Nat.sub_zero, Nat.sub_self, Int.pow_zero, Int.ediv_one, Nat.reduceMul, Nat.reduceSub, Int.reducePow] <;> omega
theorem words_range (v : Int) (k : Nat) (hk : k < 4) : 0 ≤ (words v).getD k 0 ∧ (words v).getD k 0 < 18446744073709551616 := by
  rw [words_getD _ _ hk]; omega
/-- the byte that a word gives to place i -/
def wbyte (x : Int) (i : Nat) : Int := x / 2 ^ (56 - 8 * (i % 8)) % 256
theorem words_wbyte (v : Int) (i : Nat) (hi : i < 32) : wbyte ((words v).getD (3 - i / 8) 0) i = (toB 32 v).getD i 0 := words_byte v i hi
end Go.Proofs.YtcodpdpeklammaaDoor
namespace Go.Proofs.YtcodpdpeklammaaDoor
set_option linter.unusedVariables false
set_option linter.unusedSimpArgs false
open Go Go.RowKit

/-- the model's row for Sub64 -/
def sub64Entry : Array Value → Sem Value := fun args => do
  let (x, y, b) ← Extern.MathBitsCarry.three "Sub64" args
  pure (Extern.MathBitsCarry.pair ((x + Extern.MathBitsCarry.m64 - y - b) % Extern.MathBitsCarry.m64) (if x < y + b then 1 else 0))
theorem results_cell_tmpB {P : Program} {fn : Func} {p t : Tmp} {ty : TypeId} (h : fn.results = #[.cell p ty, .tmp t]) (tmps : Array Value) (w : World) (g off : Nat) (cs : List Value) (d : TypeDesc) (u : Value) (hu' : tmps.getD t undef = u)
    (hp : tmps.getD p undef = .pointer (some ⟨g, off, none⟩)) (hg : Row w g off cs)
    (hu : P.underlying ty = some d) (hd : (match d with | .struct _ | .array _ _ => true | _ => false) = true) (hi : (P.info? ty).map (·.size) = some cs.length) :
    (results fn tmps).run P w = .ok (.tuple #[.agg cs.toArray, u]) w := by
  have hp' : tmps[p]?.getD undef = .pointer (some ⟨g, off, none⟩) := by simpa using hp
  have ht' : tmps[t]?.getD undef = u := by simpa using hu'
  simp [results, h, hp', ht', asAddr, run_loadVar_at w g off ty cs d hg hu hd hi]
/-- the words once i of them are done -/
def mixW (r u : Int) (i : Nat) : List Int := (words r).take i ++ (words u).drop i
theorem mixW_zero (r u : Int) : mixW r u 0 = words u := rfl
theorem mixW_full (r u : Int) : mixW r u 4 = words r := rfl
theorem mixW_length (r u : Int) (i : Nat) (h : i ≤ 4) : (mixW r u i).length = 4 := by simp [mixW, words_length]; omega
theorem mixW_getD (r u : Int) (i : Nat) (h : i < 4) : (mixW r u i).getD i 0 = (words u).getD i 0 := by
  have : i = 0 ∨ i = 1 ∨ i = 2 ∨ i = 3 := by omega
  rcases this with rfl | rfl | rfl | rfl <;> rfl
theorem mixW_set (r u : Int) (i : Nat) (h : i < 4) : (mixW r u i).set i ((words r).getD i 0) = mixW r u (i + 1) := by
  have : i = 0 ∨ i = 1 ∨ i = 2 ∨ i = 3 := by omega
  rcases this with rfl | rfl | rfl | rfl <;> rfl
theorem keeps_drew1 {w W : World} (h : Keeps w W) : Keeps w W.drew := Below.drew h
end Go.Proofs.YtcodpdpeklammaaDoor
namespace Go.Proofs.YtcodpdpeklammaaDoor
set_option linter.unusedVariables false
set_option linter.unusedSimpArgs false
open Go Go.RowKit

theorem yieldsIf_row {P : Program} {ops : Array Oper} {S : World → Prop} {o : Oper} {a : Act} (hw : Region.wanted o (yielded ops a.tmps) = true) (ty : TypeId) (x : Operand) (ho : o.op = .load ty x)
    (g off : Nat) (hx : a.eval x = .pointer (some ⟨g, off, none⟩)) (cs : List Value) (d : TypeDesc) (hS : ∀ w, S w → Row w g off cs)
    (hu : P.underlying ty = some d) (hd : (match d with | .struct _ | .array _ _ => true | _ => false) = true) (hi : (P.info? ty).map (·.size) = some cs.length) : YieldsIf P ops S o (.agg cs.toArray) a :=
  .inl ⟨hw, fun w hw' => by
    unfold execOp
    simp only [ho, hx, Instr.loadAt, Instr.sureAddr, Sem.run_bind, Sem.run_pure, Result.andThen_ok, run_loadVar_at w g off ty cs d (hS w hw') hu hd hi]⟩
theorem wp_store_rowK {P : Program} {w : World} {o : Oper} {a : Act} {K : Act → World → Prop} {Q : Exit → Act → World → Prop} (T : TypeId) (x y : Operand) (ho : o.op = .store T x y)
    (g off : Nat) (hx : a.eval x = .pointer (some ⟨g, off, none⟩)) (olds cs : List Value) (hy : a.eval y = .agg cs.toArray) (hg : Row w g off olds) (hl : cs.length = olds.length)
    (hi : (P.info? T).map (·.size) = some cs.length) (h1 : ∀ v ∈ cs, v.oneCell' = true)
    (h : ∀ w', Row w' g off cs → Chg (· = g) w w' → K (a.put o.dst undef) w') : o.wp P a w K Q := by
  unfold Oper.wp execOp
  simp only [ho, hx, hy, Instr.storeAt, Instr.sureAddr, Sem.run_bind, Sem.run_pure, Result.andThen_ok, run_storeVar_row w g off T olds cs hg hl hi h1]
  exact h _ (hg.whole hl) (setCells_chg _ _ _ _)
/-- an order's end: the words' sum lies in a block of its own -/
structure AddMid (W wx : World) (s5 : Value) (p : Nat) (cs : List Value) : Prop where
  keeps : Keeps W wx
  at_ : ∃ g, s5 = .pointer (some ⟨g, 0, none⟩) ∧ W.heap.size ≤ g ∧ Row wx g 0 cs
end Go.Proofs.YtcodpdpeklammaaDoor
namespace Go.Proofs.YtcodpdpeklammaaDoor
set_option linter.unusedVariables false
set_option linter.unusedSimpArgs false
open Go Go.RowKit

theorem toU8_lt {x y : Int} (hx : Byte x) (hy : Byte y) : (x.toNat.toUInt8 < y.toNat.toUInt8) = (x < y) := by
  obtain ⟨h0, h1⟩ := hx
  obtain ⟨h2, h3⟩ := hy
  obtain ⟨X, rfl⟩ := Int.eq_ofNat_of_zero_le h0
  obtain ⟨Y, rfl⟩ := Int.eq_ofNat_of_zero_le h2
  rw [UInt8.lt_iff_toNat_lt]
  simp only [Int.toNat_natCast]
  have : ∀ n : Nat, n < 256 → n.toUInt8.toNat = n := fun n hn => by
    simp [Nat.mod_eq_of_lt hn]
  rw [this X (by omega), this Y (by omega)]
  simp
theorem compare_be : ∀ {a b : List Int}, a.length = b.length → Bytes a → Bytes b → Lib.compareBytes (Lib.bytesOf a) (Lib.bytesOf b) = cmpZ (be a) (be b)
  | [], [], _, _, _ => by simp [Lib.bytesOf, Lib.compareBytes, cmpZ, be]
  | x :: a, y :: b, hl, ha, hb => by
    have hl' : a.length = b.length := by simpa using hl
    have ha' : Bytes a := fun z h => ha z (by simp [h])
    have hb' : Bytes b := fun z h => hb z (by simp [h])
    have ih := compare_be hl' ha' hb'
    have hx := ha x (by simp)
    have hy := hb y (by simp)
    have e : ∀ (z : Int) (l : List Int), Lib.bytesOf (z :: l) = z.toNat.toUInt8 :: Lib.bytesOf l := fun z l => rfl
    rw [e, e, Lib.compareBytes]
    simp only [toU8_lt hx hy, toU8_lt hy hx, ih]
    rw [be_cons, be_cons, hl']
    have h1 := be_range ha'
    have h2 := be_range hb'
    rw [hl'] at h1
    have hM : (0 : Int) ≤ 256 ^ b.length := Int.pow_nonneg (by decide)
    by_cases hlt : x < y
    · rw [if_pos hlt]
      have : (x + 1) * 256 ^ b.length ≤ y * 256 ^ b.length := Int.mul_le_mul_of_nonneg_right (by omega) hM
      rw [Int.add_mul, Int.one_mul] at this
      unfold cmpZ
      rw [if_pos (by omega)]
    · rw [if_neg hlt]
      by_cases hgt : y < x
      · rw [if_pos hgt]
        have : (y + 1) * 256 ^ b.length ≤ x * 256 ^ b.length := Int.mul_le_mul_of_nonneg_right (by omega) hM
        rw [Int.add_mul, Int.one_mul] at this
        unfold cmpZ
        rw [if_neg (by omega), if_pos (by omega)]
      · rw [if_neg hgt]
        obtain rfl : x = y := by omega
        simp only [cmpZ, Int.add_lt_add_iff_left]
  | [], _ :: _, h, _, _ => by simp at h
  | _ :: _, [], h, _, _ => by simp at h
theorem compare_run (w : World) (g1 o1 c1 g2 o2 c2 : Nat) (a b : List Int) (n : Nat) (hla : a.length = n) (hlb : b.length = n) (ha : Bytes a) (hb : Bytes b)
    (h1 : Row w g1 o1 (a.map (Value.int .u8))) (h2 : Row w g2 o2 (b.map (Value.int .u8))) :
    (callFunc 79 #[.slice (some ⟨g1, o1, none⟩) n c1, .slice (some ⟨g2, o2, none⟩) n c2]).run Tryd.prog w = .ok (.value (.int .i64 (cmpZ (be a) (be b)))) w := by
  have key : ∀ (g o : Nat) (l : List Int), l.length = n → Row w g o (l.map (Value.int .u8)) → (Extern.Bytes.loadBytes ⟨g, o, none⟩ n .empty).run Tryd.prog w = .ok ⟨(Lib.bytesOf l).toArray⟩ w := by
    intro g o l hl hr
    have := Lib.run_loadBytesX (P := Tryd.prog) w l ⟨g, o, none⟩ .empty (fun j x hj => by
      have e : (⟨g, o, none⟩ : Addr).add j = ⟨g, o + j, none⟩ := by unfold Addr.add; split <;> simp_all
      rw [e]
      exact (hr j (.int .u8 x) (by simp [hj])).1)
    rw [hl] at this
    rw [this]
    congr 1
    apply ByteArray.ext
    show (#[] : Array UInt8) ++ (Lib.bytesOf l).toArray = (Lib.bytesOf l).toArray
    simp
  rw [run_callFunc_extern Tryd.func79 (by kernel_rfl) (by kernel_rfl) (by kernel_rfl) (e := Extern.BytealgCompare.compare) (by kernel_rfl)]
  have hrun : (Extern.BytealgCompare.compare #[.slice (some ⟨g1, o1, none⟩) n c1, .slice (some ⟨g2, o2, none⟩) n c2]).run Tryd.prog w = .ok (.int .i64 (cmpZ (be a) (be b))) w := by
    change Sem.run _ (do pure (goInt (Extern.BytealgCompare.cmp (← Extern.Bytes.bytesOf (.slice (some ⟨g1, o1, none⟩) n c1)) (← Extern.Bytes.bytesOf (.slice (some ⟨g2, o2, none⟩) n c2))))) w = _
    simp only [Extern.Bytes.bytesOf, Sem.run_bind, Sem.run_pure, key _ _ _ hla h1, key _ _ _ hlb h2, Result.andThen]
    rw [Lib.cmp_eq]
    simp only [List.toList_toArray]
    rw [compare_be (hla.trans hlb.symm) ha hb]
    rfl
  rw [hrun]
  rfl
set_option maxRecDepth 100000 in
theorem bcompare_any (a b : List Int) (ha : Bytes a) (hb : Bytes b) (hla : a.length = 32) (hlb : b.length = 32) (w : World) :
    Calls Tryd.prog 29 #[.agg (a.map (Value.int .u8)).toArray, .agg (b.map (Value.int .u8)).toArray] w fun e w' => e = .returned (.int .i64 (cmpZ (be a) (be b))) ∧ Keeps w w' := by
  go_enter Tryd.func29, Tryd.ntmps29
  go_upto_region 1 with (fail)
  obtain ⟨p, q, W, hp, hq, hW, hk, hra, hrb, hs⟩ := two_rows w (a.map (Value.int .u8)) (b.map (Value.int .u8)) 45 45
  rw [← hW, ← hq, ← hp]
  clear hW hs hp hq
  have hcr := fun n => compare_run (W.drewN n) p 0 32 q 0 32 a b 32 hla hlb ha hb (hra.drewN n) (hrb.drewN n)
  have HK := Lib.hid hk
  clear hra hrb hk ha hb
  have hcall : ∀ n, Calls Tryd.prog 52 #[.slice (some ⟨p, 0, none⟩) 32 32, .slice (some ⟨q, 0, none⟩) 32 32] (W.drewN n) fun e w' => e = .returned (.int .i64 (cmpZ (be a) (be b))) ∧ W.drewN n = w' := by
    intro n
    have h2 := hcr n
    clear hcr
    generalize cmpZ (be a) (be b) = z at *
    generalize W.drewN n = W2 at *
    go_enter Tryd.func52, Tryd.ntmps52
    go_wp2
    go_ret
    exact ⟨rfl, rfl⟩
  have HC := Lib.hid hcall
  clear hcall hcr
  go_quiet ((go_at_call 52; first | exact s1 (HC.out _) | exact s2 (HC.out _) | exact q1 (HC.out _) | exact q2 (HC.out _)))
  go_wp2
  go_ret
  exact ⟨ret_int rfl, HK.out.trans (Qt.keeps (by repeat (first | exact Qt.refl _ | exact Qt.drewN _ _ | refine Qt.trans ?_ (Qt.drewN _ _))))⟩
end Go.Proofs.YtcodpdpeklammaaDoor
