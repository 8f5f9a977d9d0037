/- A digest's text read back is the digest; a good text is the text of what it is read as. Plain: no program. -/
import Derived.Test.YtgdbaejcbfofoaaFrom
import Derived.Test.YtgdbaejcbfofoaaHex
namespace Go.Proofs.Ytgdbaejcbfofoaa
set_option linter.unusedVariables false
set_option linter.unusedSimpArgs false
open Go Go.RowKit

theorem textI_get (zs : List Int) (k j : Nat) (hj : j < k) : (textI zs k).getD (2 * j) 0 = dig (zs.getD (zs.length - 1 - j) 0 / 16) ∧ (textI zs k).getD (2 * j + 1) 0 = dig (zs.getD (zs.length - 1 - j) 0 % 16) := by
  induction k with
  | zero => omega
  | succ k ih =>
    rw [textI_succ]
    by_cases h : j < k
    · have hl := textI_length zs k
      obtain ⟨h1, h2⟩ := ih h
      constructor
      · rw [← h1]; simp only [List.getD]; rw [List.getElem?_append_left (by omega)]
      · rw [← h2]; simp only [List.getD]; rw [List.getElem?_append_left (by omega)]
    · obtain rfl : j = k := by omega
      have hl := textI_length zs j
      constructor
      · simp only [List.getD]; rw [List.getElem?_append_right (by omega), hl, show 2 * j - 2 * j = 0 by omega]; rfl
      · simp only [List.getD]; rw [List.getElem?_append_right (by omega), hl, show 2 * j + 1 - 2 * j = 1 by omega]; rfl
theorem bAt_text {zs : List Int} (h : Bytes zs) (hl : zs.length = 32) (j : Nat) (hj : j < 64) : bAt ⟨(textB zs).toArray⟩ j = (textI zs 32).getD j 0 := by
  have e := textI_textB h
  rw [hl] at e
  have hlen : (textB zs).length = 64 := by have := congrArg List.length e; rw [textI_length, List.length_map] at this; omega
  rw [e]
  simp [bAt, List.getD, hlen, hj]
theorem dig_hexI (k : Int) (h0 : 0 ≤ k) (h1 : k < 16) : hexI (dig k) = k := by
  have := hexI_dig ⟨k.toNat, by omega⟩
  simp only at this
  rwa [Int.toNat_of_nonneg h0] at this
theorem dig_range (k : Int) (h0 : 0 ≤ k) (h1 : k < 16) : 0 ≤ dig k ∧ dig k < 256 := by unfold dig; split <;> omega
theorem ft_text {zs : List Int} (h : Bytes zs) (hl : zs.length = 32) : ftGood ⟨(textB zs).toArray⟩ ∧ ftK ⟨(textB zs).toArray⟩ 32 = zs := by
  have e := textI_textB h
  rw [hl] at e
  have hlen : (textB zs).length = 64 := by have := congrArg List.length e; rw [textI_length, List.length_map] at this; omega
  have hb := fun j => h.getD j
  have hv : ∀ j, j < 32 → ftV ⟨(textB zs).toArray⟩ j = zs.getD (31 - j) 0 ∧ 0 ≤ hexI (bAt ⟨(textB zs).toArray⟩ (2 * j)) ∧ 0 ≤ hexI (bAt ⟨(textB zs).toArray⟩ (2 * j + 1)) := fun j hj => by
    obtain ⟨g1, g2⟩ := textI_get zs 32 j hj
    rw [hl] at g1 g2
    unfold ftV
    rw [bAt_text h hl _ (by omega), bAt_text h hl _ (by omega), g1, g2]
    obtain ⟨b0, b1⟩ := hb (32 - 1 - j)
    rw [dig_hexI _ (by omega) (by omega), dig_hexI _ (by omega) (by omega)]
    rw [show 31 - j = 32 - 1 - j by omega]
    refine ⟨by omega, by omega, by omega⟩
  refine ⟨⟨by show (textB zs).toArray.size = 64; simp [hlen], fun j hj => ?_⟩, ?_⟩
  · have h2 := (hv (j / 2) (by omega)).2
    by_cases hp : j % 2 = 0
    · have := h2.1; rwa [show 2 * (j / 2) = j by omega] at this
    · have := h2.2; rwa [show 2 * (j / 2) + 1 = j by omega] at this
  · apply List.ext_getElem
    · rw [ftK_length _ _ (Nat.le_refl _), hl]
    · intro i h1 h2
      have hi : i < 32 := by rw [ftK_length _ _ (Nat.le_refl _)] at h1; exact h1
      have := (hv (31 - i) (by omega)).1
      rw [show 31 - (31 - i) = i by omega] at this
      simp [ftK, this, List.getD, h2]
theorem text_ft {s : ByteArray} (h : ftGood s) : textB (ftK s 32) = s.data.toList ∧ Bytes (ftK s 32) := by
  obtain ⟨h64, hg⟩ := h
  have hd : ∀ j, j < 64 → dig (hexI (bAt s j)) = bAt s j ∧ 0 ≤ hexI (bAt s j) ∧ hexI (bAt s j) < 16 := fun j hj => by
    have hr := bAt_range s j
    have ha := hexI_all ⟨(bAt s j).toNat, by omega⟩
    simp only at ha
    rw [Int.toNat_of_nonneg hr.1] at ha
    exact ⟨ha.2.1 (hg j hj), hg j hj, ha.1.2⟩
  have hl := ftK_length s 32 (Nat.le_refl _)
  have hget : ∀ j, j < 32 → (ftK s 32).getD (31 - j) 0 = ftV s j := fun j hj => by
    simp [ftK, List.getD, show 31 - j < 32 by omega, show 31 - (31 - j) = j by omega]
  have hby : Bytes (ftK s 32) := by
    intro x hx
    simp only [ftK, Nat.sub_self, List.replicate_zero, List.nil_append, List.mem_map, List.mem_reverse, List.mem_range] at hx
    obtain ⟨j, hj, rfl⟩ := hx
    have h1 := hd (2 * j) (by omega)
    have h2 := hd (2 * j + 1) (by omega)
    unfold ftV Byte
    omega
  refine ⟨?_, hby⟩
  have e := textI_textB hby
  rw [hl] at e
  have hsl : s.data.toList.length = 64 := by rw [Array.length_toList]; exact h64
  have e2 : textI (ftK s 32) 32 = s.data.toList.map fun b => (b.toNat : Int) := by
    apply List.ext_getElem
    · rw [textI_length, List.length_map, hsl]
    · intro i h1 h2
      have hi : i < 64 := by rw [textI_length] at h1; omega
      obtain ⟨g1, g2⟩ := textI_get (ftK s 32) 32 (i / 2) (by omega)
      rw [hl, show 32 - 1 - i / 2 = 31 - i / 2 by omega, hget (i / 2) (by omega)] at g1 g2
      have d1 := hd (2 * (i / 2)) (by omega)
      have d2 := hd (2 * (i / 2) + 1) (by omega)
      unfold ftV at g1 g2
      have q1 : (hexI (bAt s (2 * (i / 2))) * 16 + hexI (bAt s (2 * (i / 2) + 1))) / 16 = hexI (bAt s (2 * (i / 2))) := by omega
      have q2 : (hexI (bAt s (2 * (i / 2))) * 16 + hexI (bAt s (2 * (i / 2) + 1))) % 16 = hexI (bAt s (2 * (i / 2) + 1)) := by omega
      rw [q1, d1.1] at g1
      rw [q2, d2.1] at g2
      have hgi : (textI (ftK s 32) 32).getD i 0 = bAt s i := by
        by_cases hp : i % 2 = 0
        · rwa [show 2 * (i / 2) = i by omega] at g1
        · rwa [show 2 * (i / 2) + 1 = i by omega] at g2
      have e3 : ∀ (l : List Int) (hh : i < l.length), l[i] = l.getD i 0 := fun l hh => by simp [List.getD, hh]
      rw [e3 _ h1, hgi]
      have hsz : i < s.data.size := by rw [← Array.length_toList, hsl]; exact hi
      simp [bAt, List.getD, getElem?_pos s.data i hsz]
  rw [e] at e2
  exact List.map_inj_right (fun a b hab => UInt8.toNat_inj.1 (by have h3 : (a.toNat : Int) = (b.toNat : Int) := hab; omega)) |>.1 e2
end Go.Proofs.Ytgdbaejcbfofoaa
