/- bytes.Compare on two rows of bytes; block.Compare: which of two numbers is less. -/
import Derived.Test.YtdcoiniecmeglaaDoorNumAdd
import Derived.Lib.BytesEntry
namespace Go.Proofs.YtdcoiniecmeglaaDoor
set_option linter.unusedVariables false
set_option linter.unusedSimpArgs false
open Go Go.RowKit

theorem toU8_lt {x y : Int} (hx : Byte x) (hy : Byte y) : (x.toNat.toUInt8 < y.toNat.toUInt8) = (x < y) := by
  obtain ⟨h0, h1⟩ := hx
  obtain ⟨h2, h3⟩ := hy
  obtain ⟨X, rfl⟩ := Int.eq_ofNat_of_zero_le h0
  obtain ⟨Y, rfl⟩ := Int.eq_ofNat_of_zero_le h2
  rw [UInt8.lt_iff_toNat_lt]
  simp only [Int.toNat_natCast]
  have : ∀ n : Nat, n < 256 → n.toUInt8.toNat = n := fun n hn => by
    simp [Nat.mod_eq_of_lt hn]
  rw [this X (by omega), this Y (by omega)]
  simp
theorem compare_be : ∀ {a b : List Int}, a.length = b.length → Bytes a → Bytes b → Lib.compareBytes (Lib.bytesOf a) (Lib.bytesOf b) = cmpZ (be a) (be b)
  | [], [], _, _, _ => by simp [Lib.bytesOf, Lib.compareBytes, cmpZ, be]
  | x :: a, y :: b, hl, ha, hb => by
    have hl' : a.length = b.length := by simpa using hl
    have ha' : Bytes a := fun z h => ha z (by simp [h])
    have hb' : Bytes b := fun z h => hb z (by simp [h])
    have ih := compare_be hl' ha' hb'
    have hx := ha x (by simp)
    have hy := hb y (by simp)
    have e : ∀ (z : Int) (l : List Int), Lib.bytesOf (z :: l) = z.toNat.toUInt8 :: Lib.bytesOf l := fun z l => rfl
    rw [e, e, Lib.compareBytes]
    simp only [toU8_lt hx hy, toU8_lt hy hx, ih]
    rw [be_cons, be_cons, hl']
    have h1 := be_range ha'
    have h2 := be_range hb'
    rw [hl'] at h1
    have hM : (0 : Int) ≤ 256 ^ b.length := Int.pow_nonneg (by decide)
    by_cases hlt : x < y
    · rw [if_pos hlt]
      have : (x + 1) * 256 ^ b.length ≤ y * 256 ^ b.length := Int.mul_le_mul_of_nonneg_right (by omega) hM
      rw [Int.add_mul, Int.one_mul] at this
      unfold cmpZ
      rw [if_pos (by omega)]
    · rw [if_neg hlt]
      by_cases hgt : y < x
      · rw [if_pos hgt]
        have : (y + 1) * 256 ^ b.length ≤ x * 256 ^ b.length := Int.mul_le_mul_of_nonneg_right (by omega) hM
        rw [Int.add_mul, Int.one_mul] at this
        unfold cmpZ
        rw [if_neg (by omega), if_pos (by omega)]
      · rw [if_neg hgt]
        obtain rfl : x = y := by omega
        simp only [cmpZ, Int.add_lt_add_iff_left]
  | [], _ :: _, h, _, _ => by simp at h
  | _ :: _, [], h, _, _ => by simp at h
theorem compare_run (w : World) (g1 o1 c1 g2 o2 c2 : Nat) (a b : List Int) (n : Nat) (hla : a.length = n) (hlb : b.length = n) (ha : Bytes a) (hb : Bytes b)
    (h1 : Row w g1 o1 (a.map (Value.int .u8))) (h2 : Row w g2 o2 (b.map (Value.int .u8))) :
    (callFunc 41 #[.slice (some ⟨g1, o1, none⟩) n c1, .slice (some ⟨g2, o2, none⟩) n c2]).run Tryd.prog w = .ok (.value (.int .i64 (cmpZ (be a) (be b)))) w := by
  have key : ∀ (g o : Nat) (l : List Int), l.length = n → Row w g o (l.map (Value.int .u8)) → (Extern.Bytes.loadBytes ⟨g, o, none⟩ n .empty).run Tryd.prog w = .ok ⟨(Lib.bytesOf l).toArray⟩ w := by
    intro g o l hl hr
    have := Lib.run_loadBytesX (P := Tryd.prog) w l ⟨g, o, none⟩ .empty (fun j x hj => by
      have e : (⟨g, o, none⟩ : Addr).add j = ⟨g, o + j, none⟩ := by unfold Addr.add; split <;> simp_all
      rw [e]
      exact (hr j (.int .u8 x) (by simp [hj])).1)
    rw [hl] at this
    rw [this]
    congr 1
    apply ByteArray.ext
    show (#[] : Array UInt8) ++ (Lib.bytesOf l).toArray = (Lib.bytesOf l).toArray
    simp
  rw [run_callFunc_extern Tryd.func41 (by kernel_rfl) (by kernel_rfl) (by kernel_rfl) (e := Extern.BytealgCompare.compare) (by kernel_rfl)]
  have hrun : (Extern.BytealgCompare.compare #[.slice (some ⟨g1, o1, none⟩) n c1, .slice (some ⟨g2, o2, none⟩) n c2]).run Tryd.prog w = .ok (.int .i64 (cmpZ (be a) (be b))) w := by
    change Sem.run _ (do pure (goInt (Extern.BytealgCompare.cmp (← Extern.Bytes.bytesOf (.slice (some ⟨g1, o1, none⟩) n c1)) (← Extern.Bytes.bytesOf (.slice (some ⟨g2, o2, none⟩) n c2))))) w = _
    simp only [Extern.Bytes.bytesOf, Sem.run_bind, Sem.run_pure, key _ _ _ hla h1, key _ _ _ hlb h2, Result.andThen]
    rw [Lib.cmp_eq]
    simp only [List.toList_toArray]
    rw [compare_be (hla.trans hlb.symm) ha hb]
    rfl
  rw [hrun]
  rfl
set_option maxRecDepth 100000 in
theorem bcompare_any (a b : List Int) (ha : Bytes a) (hb : Bytes b) (hla : a.length = 32) (hlb : b.length = 32) (w : World) :
    Calls Tryd.prog 8 #[.agg (a.map (Value.int .u8)).toArray, .agg (b.map (Value.int .u8)).toArray] w fun e w' => e = .returned (.int .i64 (cmpZ (be a) (be b))) ∧ Keeps w w' := by
  go_enter Tryd.func8, Tryd.ntmps8
  go_upto_region 1 with (fail)
  obtain ⟨p, q, W, hp, hq, hW, hk, hra, hrb, hs⟩ := two_rows w (a.map (Value.int .u8)) (b.map (Value.int .u8)) 23 23
  rw [← hW, ← hq, ← hp]
  clear hW hs hp hq
  have hcr := fun n => compare_run (W.drewN n) p 0 32 q 0 32 a b 32 hla hlb ha hb (hra.drewN n) (hrb.drewN n)
  have HK := Lib.hid hk
  clear hra hrb hk ha hb
  have hcall : ∀ n, Calls Tryd.prog 22 #[.slice (some ⟨p, 0, none⟩) 32 32, .slice (some ⟨q, 0, none⟩) 32 32] (W.drewN n) fun e w' => e = .returned (.int .i64 (cmpZ (be a) (be b))) ∧ W.drewN n = w' := by
    intro n
    have h2 := hcr n
    clear hcr
    generalize cmpZ (be a) (be b) = z at *
    generalize W.drewN n = W2 at *
    go_enter Tryd.func22, Tryd.ntmps22
    go_wp2
    go_ret
    exact ⟨rfl, rfl⟩
  have HC := Lib.hid hcall
  clear hcall hcr
  go_quiet ((go_at_call 22; first | exact s1 (HC.out _) | exact s2 (HC.out _) | exact q1 (HC.out _) | exact q2 (HC.out _)))
  go_wp2
  go_ret
  exact ⟨ret_int rfl, HK.out.trans (Qt.keeps (by repeat (first | exact Qt.refl _ | exact Qt.drewN _ _ | refine Qt.trans ?_ (Qt.drewN _ _))))⟩
end Go.Proofs.YtdcoiniecmeglaaDoor
