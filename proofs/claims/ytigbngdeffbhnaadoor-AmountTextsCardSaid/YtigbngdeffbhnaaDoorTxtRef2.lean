/- The reference's Parse reads what amount.Parse reads. -/
import Derived.Test.YtigbngdeffbhnaaDoorTxtRef
namespace Go.Proofs.YtigbngdeffbhnaaDoor
set_option linter.unusedVariables false
set_option linter.unusedSimpArgs false
open Go Go.RowKit

theorem isD_of (s : ByteArray) (j : Nat) : isD (s.data.toList.getD j 0) = true ↔ 48 ≤ bAt s j ∧ bAt s j ≤ 57 := by
  rw [isD_bAt]; simp
theorem isD_not (s : ByteArray) (j : Nat) : isD (s.data.toList.getD j 0) = false ↔ bAt s j < 48 ∨ 57 < bAt s j := by
  rw [isD_bAt, Bool.and_eq_false_iff, decide_eq_false_iff_not, decide_eq_false_iff_not]; omega
theorem dv_bAt (s : ByteArray) (j : Nat) (h : 48 ≤ bAt s j) : (dv (s.data.toList.getD j 0) : Int) = bAt s j - 48 := by
  unfold bAt at *
  unfold dv
  omega
theorem tw_in {l : List UInt8} {j : Nat} (h : j < (l.takeWhile isD).length) : isD (l.getD j 0) = true := by
  induction l generalizing j with
  | nil => simp at h
  | cons c l ih =>
    rw [List.takeWhile_cons] at h
    split at h
    · rename_i hc
      cases j with
      | zero => simpa using hc
      | succ j => rw [List.getD_cons_succ]; exact ih (by simpa using h)
    · simp at h
theorem tw_out {l : List UInt8} (h : (l.takeWhile isD).length < l.length) : isD (l.getD (l.takeWhile isD).length 0) = false := by
  induction l with
  | nil => simp at h
  | cons c l ih =>
    rw [List.takeWhile_cons] at h ⊢
    split
    · rename_i hc
      rw [if_pos hc] at h
      rw [List.length_cons, List.getD_cons_succ]
      exact ih (by simpa using h)
    · rename_i hc
      simpa using hc
theorem tw_le (l : List UInt8) : (l.takeWhile isD).length ≤ l.length := by
  induction l with
  | nil => simp
  | cons c l ih =>
    rw [List.takeWhile_cons]
    split
    · simpa using ih
    · simp
theorem take_snoc (l : List UInt8) (i : Nat) (h : i < l.length) : l.take (i + 1) = l.take i ++ [l.getD i 0] := by
  rw [List.take_succ_eq_append_getElem h]
  simp [List.getD, h]
theorem numF_snoc (a : Nat) (l : List UInt8) (c : UInt8) : numF a (l ++ [c]) = numF a l * 10 + dv c := by
  rw [numF_append, numF_cons, numF_nil]
theorem all_take {l : List UInt8} {n : Nat} (hn : n ≤ l.length) (h : ∀ j, j < n → isD (l.getD j 0) = true) : (l.take n).all isD = true := by
  induction n with
  | zero => simp
  | succ n ih =>
    rw [take_snoc _ _ (by omega), List.all_append, ih (by omega) (fun j hj => h j (by omega))]
    simpa using h n (by omega)
theorem drop_getD (l : List UInt8) (n m : Nat) : (l.drop n).getD m 0 = l.getD (n + m) 0 := by
  simp [List.getD]
theorem rparse_any (s : ByteArray) (hmax : s.size ≤ 281474976710656) (w : World) :
    Calls Tryd.prog 9 #[.string s] w fun e w' => e = .returned (.tuple #[.int .i64 (rparV s.data.toList), .int .i64 (rparE s.data.toList)]) ∧ w = w' := by
  have hz := size_list s
  have hD := isD_of s
  have hN := isD_not s
  have hV := dv_bAt s
  have hin : ∀ j, j < kL s.data.toList → isD (s.data.toList.getD j 0) = true := fun j hj => tw_in hj
  have hout : kL s.data.toList < s.size → isD (s.data.toList.getD (kL s.data.toList) 0) = false := fun h => tw_out (by rw [← hz]; exact h)
  have hk : kL s.data.toList ≤ s.size := by rw [hz]; exact tw_le _
  have hfl : (fracL s.data.toList).length = fLen s.size (kL s.data.toList) := by unfold fracL fLen; rw [List.length_drop, hz]
  have hfg : ∀ m, (fracL s.data.toList).getD m 0 = s.data.toList.getD (kL s.data.toList + 1 + m) 0 := fun m => drop_getD _ _ _
  have hb48 : ∀ j, j < s.size → (s.data.toList.getD j 0 = 48 ↔ bAt s j = 48) := fun j _ => by
    unfold bAt
    constructor
    · intro h; rw [h]; rfl
    · intro h
      exact UInt8.toNat_inj.1 (by show (s.data.toList.getD j 0).toNat = 48; omega)
  have hb46 : ∀ j, (s.data.toList.getD j 0 = 46 ↔ bAt s j = 46) := fun j => by
    unfold bAt
    constructor
    · intro h; rw [h]; rfl
    · intro h
      exact UInt8.toNat_inj.1 (by show (s.data.toList.getD j 0).toNat = 46; omega)
  have hform : formL s.data.toList ↔ (kL s.data.toList = 0 ∨ (1 < kL s.data.toList ∧ bAt s 0 = 48)) ∨ (kL s.data.toList < s.size ∧ (bAt s (kL s.data.toList) ≠ 46 ∨ kL s.data.toList + 1 = s.size ∨ 9 < s.size - kL s.data.toList)) ∨ ∃ m, kL s.data.toList + 1 + m < s.size ∧ (bAt s (kL s.data.toList + 1 + m) < 48 ∨ 57 < bAt s (kL s.data.toList + 1 + m)) := by
    have e0 : (1 < kL s.data.toList ∧ s.data.toList.getD 0 0 = 48) ↔ (1 < kL s.data.toList ∧ bAt s 0 = 48) := by
      constructor
      · rintro ⟨h1, h2⟩; exact ⟨h1, (hb48 0 (by omega)).1 h2⟩
      · rintro ⟨h1, h2⟩; exact ⟨h1, (hb48 0 (by omega)).2 h2⟩
    have e1 : (s.data.toList.getD (kL s.data.toList) 0 ≠ 46) ↔ (bAt s (kL s.data.toList) ≠ 46) := not_congr (hb46 _)
    have e2 : (s.data.toList.drop (kL s.data.toList + 1)).all isD = false ↔ ∃ m, kL s.data.toList + 1 + m < s.size ∧ (bAt s (kL s.data.toList + 1 + m) < 48 ∨ 57 < bAt s (kL s.data.toList + 1 + m)) := by
      constructor
      · intro h
        rw [List.all_eq_false] at h
        obtain ⟨x, hx, hx2⟩ := h
        obtain ⟨m, hm, hx3⟩ := List.getElem_of_mem hx
        rw [List.length_drop, ← hz] at hm
        refine ⟨m, by omega, (hN _).1 ?_⟩
        rw [← drop_getD, List.getD, List.getElem?_eq_getElem (by rw [List.length_drop, ← hz]; omega), Option.getD_some, hx3]
        simpa using hx2
      · rintro ⟨m, hm, hx⟩
        refine all_false_of _ m (by rw [List.length_drop, ← hz]; omega) ?_
        rw [drop_getD]
        exact (hN _).2 hx
    unfold formL
    rw [e0, e1, e2, hz]
  have hno : formL s.data.toList → rparV s.data.toList = 0 ∧ rparE s.data.toList = 3 := fun h => by unfold rparV rparE; rw [if_pos h, if_pos h]; exact ⟨rfl, rfl⟩
  have hyes : ¬ formL s.data.toList → rparV s.data.toList = (if 21000000 < capF 0 (s.data.toList.take (kL s.data.toList)) then 0 else vV (rvalL s.data.toList)) ∧ rparE s.data.toList = (if 21000000 < capF 0 (s.data.toList.take (kL s.data.toList)) then 6 else vE (rvalL s.data.toList)) := fun h => by unfold rparV rparE; rw [if_neg h, if_neg h]; exact ⟨rfl, rfl⟩
  have hrv : rvalL s.data.toList = numF (capF 0 (s.data.toList.take (kL s.data.toList))) (fracL s.data.toList) * 10 ^ (8 - fLen s.size (kL s.data.toList)) := by unfold rvalL; rw [hfl]
  generalize rparV s.data.toList = V at *
  generalize rparE s.data.toList = E at *
  generalize rvalL s.data.toList = RV at *
  generalize hFR : fracL s.data.toList = FR at *
  generalize hK : kL s.data.toList = k at *
  generalize s.data.toList = L at *
  have hfull : FR.take (fLen s.size k) = FR := by rw [← hfl, List.take_length]
  have hbound : ¬ (21000000 < ((capF 0 (L.take k) : Nat) : Int)) → ∀ m q, m + q ≤ 8 → m ≤ fLen s.size k → (∀ j, j < m → 48 ≤ bAt s (k + 1 + j) ∧ bAt s (k + 1 + j) ≤ 57) → numF (capF 0 (L.take k)) (FR.take m) * 10 ^ q ≤ 2100000100000000 := by
    intro hg m q hm hmf hd
    have hall : (FR.take m).all isD = true := all_take (by omega) (fun j hj => by rw [hfg]; exact (hD _).2 (hd j hj))
    have h1 := numF_lt (FR.take m) (capF 0 (L.take k)) hall
    rw [List.length_take, show min m FR.length = m by omega] at h1
    have h2 : (capF 0 (L.take k) + 1) * 10 ^ m ≤ 21000001 * 10 ^ m := Nat.mul_le_mul_right _ (by omega)
    have h3 : numF (capF 0 (L.take k)) (FR.take m) * 10 ^ q ≤ 21000001 * 10 ^ m * 10 ^ q := Nat.mul_le_mul_right _ (by omega)
    rw [Nat.mul_assoc, ← Nat.pow_add] at h3
    have h4 : 21000001 * 10 ^ (m + q) ≤ 21000001 * 10 ^ 8 := Nat.mul_le_mul_left _ (Nat.pow_le_pow_right (by omega) hm)
    exact Nat.le_trans h3 (Nat.le_trans h4 (by decide))
  refine rparse_walk s hmax k (fun j => capF 0 (L.take j)) (fun m => numF (capF 0 (L.take k)) (FR.take m)) V E hk (fun j hj => (hD j).1 (hin j hj)) (fun h => (hN k).1 (hout h)) rfl ?_ ?_ ?_ ?_ ?_ ?_ (by simp [numF]) ?_ ?_ ?_ (fun q => numF (capF 0 (L.take k)) FR * 10 ^ q) (by show _ * 10 ^ 0 = _; rw [hfull]; simp) (fun q => by show ((_ * 10 ^ (q + 1) : Nat) : Int) = _; rw [Nat.pow_succ, ← Nat.mul_assoc]; omega) ?_ ?_ w
  · intro j hj hle
    show ((capF 0 (L.take (j + 1)) : Nat) : Int) = 10 * ((capF 0 (L.take j) : Nat) : Int) + (bAt s j - 48)
    rw [take_snoc _ _ (by omega), capF_snoc, if_pos (by simpa using Int.ofNat_le.1 hle)]
    have := hV j ((hD j).1 (hin j hj)).1
    omega
  · intro j hj hle
    show ((capF 0 (L.take (j + 1)) : Nat) : Int) = ((capF 0 (L.take j) : Nat) : Int)
    have hle2 : ¬ ((capF 0 (L.take j) : Nat) : Int) ≤ 2100000000000000 := hle
    rw [take_snoc _ _ (by omega), capF_snoc, if_neg (by omega)]
  · intro j hj
    exact capF_lt _ _ (by omega) (all_take (by omega) (fun i hi => hin i (by omega)))
  · intro h; exact hno (hform.2 (.inl h))
  · intro h1 h2; exact hno (hform.2 (.inr (.inl ⟨h1, h2⟩)))
  · intro m h1 h2; exact hno (hform.2 (.inr (.inr ⟨m, h1, h2⟩)))
  · intro m h1 h2
    show ((numF (capF 0 (L.take k)) (FR.take (m + 1)) : Nat) : Int) = 10 * ((numF (capF 0 (L.take k)) (FR.take m) : Nat) : Int) + _
    rw [take_snoc FR m (by rw [hfl]; unfold fLen; omega), numF_snoc, hfg]
    have := hV (k + 1 + m) h2
    omega
  · intro hg m hm hd hmf
    have := hbound hg m 0 (by omega) hmf hd
    simp only [Nat.pow_zero, Nat.mul_one] at this
    exact Int.ofNat_le.2 this
  · intro n1 n2 n3 hg
    have hnf : ¬ formL L := fun h => by
      rcases hform.1 h with h | ⟨h1, h2⟩ | ⟨m, h1, h2⟩
      · exact n1 h
      · exact n2 h1 h2
      · have := n3 m h1; omega
    obtain ⟨e1, e2⟩ := hyes hnf
    have hg2 : 21000000 < capF 0 (L.take k) := by have : (21000000 : Int) < ((capF 0 (L.take k) : Nat) : Int) := hg; omega
    rw [if_pos hg2] at e1 e2
    exact ⟨e1, e2⟩
  · intro hg hd q hq
    have := hbound hg (fLen s.size k) q hq (Nat.le_refl _) (fun j hj => hd j (by unfold fLen at hj; omega))
    rw [hfull] at this
    exact Int.ofNat_le.2 this
  · intro n1 n2 n3 hg
    have hnf : ¬ formL L := fun h => by
      rcases hform.1 h with h | ⟨h1, h2⟩ | ⟨m, h1, h2⟩
      · exact n1 h
      · exact n2 h1 h2
      · have := n3 m h1; omega
    obtain ⟨e1, e2⟩ := hyes hnf
    have hg2 : ¬ 21000000 < capF 0 (L.take k) := by have : ¬ (21000000 : Int) < ((capF 0 (L.take k) : Nat) : Int) := hg; omega
    rw [if_neg hg2] at e1 e2
    rw [hrv] at e1 e2
    exact ⟨e1, e2⟩
end Go.Proofs.YtigbngdeffbhnaaDoor
