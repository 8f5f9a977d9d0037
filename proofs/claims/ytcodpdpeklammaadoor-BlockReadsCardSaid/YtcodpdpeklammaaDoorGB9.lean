/- tx.reader's fine, number, count, text. -/
import Derived.Test.YtcodpdpeklammaaDoorGB8
import Derived.Test.YtcodpdpeklammaaDoorGA5
import Derived.Test.YtcodpdpeklammaaDoorGA6
import Derived.Deep.RegionHeld3
namespace Go.Proofs.YtcodpdpeklammaaDoor
set_option linter.unusedVariables false
set_option linter.unusedSimpArgs false
open Go Go.RowKit
variable {B : Nat}
/-- what a read of tx's reader does -/
def ReadT (B : Nat) {α : Type} (p : Rdr α) (enc : World → α → Value → Prop) (g : Nat) (l : List Int) (w : World) (r : Ending) (w' : World) : Prop :=
  Chg (· = g) w w' ∧ ((∃ x val v' l', p l = .ok (x, l') ∧ r = .returned val ∧ enc w' x val ∧ RdAt B w' g v' 0 l') ∨ (∃ c, p l = .error c ∧ r = .panicked (stopT c)))
theorem rdNum_err {n : Nat} {l : List Int} {c : Int} (h : rdNum n l = .error c) : c ≠ 0 := by
  by_cases hl : l.length < n
  · rw [num_no hl] at h; cases h; decide
  · rw [num_ok (by omega)] at h; cases h
theorem rdTake_err {n : Nat} {l : List Int} {c : Int} (h : rdTake n l = .error c) : c ≠ 0 := by
  by_cases hl : l.length < n
  · rw [take_no' hl] at h; cases h; decide
  · rw [take_ok' (by omega)] at h; cases h
theorem rdSize_err {l : List Int} {c : Int} (h : rdSize l = .error c) : c ≠ 0 := by
  unfold rdSize at h
  cases h1 : rdNum 1 l with
  | error d => rw [rdBind_err h1] at h; cases h; exact rdNum_err h1
  | ok p =>
    obtain ⟨y, r1⟩ := p
    rw [rdBind_ok h1] at h
    by_cases hy : y < 253
    · rw [if_pos hy] at h; cases h
    · rw [if_neg hy] at h
      cases h2 : rdNum (markLen y) r1 with
      | error d => rw [rdBind_err h2] at h; cases h; exact rdNum_err h2
      | ok p =>
        obtain ⟨z, r2⟩ := p
        rw [rdBind_ok h2] at h
        by_cases hz : (sizeB z).length ≠ markLen y + 1
        · rw [if_pos hz] at h; cases h; decide
        · rw [if_neg hz] at h
          by_cases hz2 : (33554432 : Int) < z
          · rw [if_pos hz2] at h; cases h; decide
          · rw [if_neg hz2] at h; cases h
theorem rdList_err {m : Int} {l : List Int} {c : Int} (h : rdList m l = .error c) : c ≠ 0 := by
  cases h1 : rdSize l with
  | error d => rw [list_size_err h1] at h; cases h; exact rdSize_err h1
  | ok p =>
    obtain ⟨y, r1⟩ := p
    rw [list_size_ok h1] at h
    split at h
    · cases h; decide
    · exact rdTake_err h
set_option maxRecDepth 100000 in
theorem fine_ok (g : Nat) (v : Value) (l : List Int) (w : World) (h : RdAt B w g v 0 l) : Calls Tryd.prog 68 #[rdV g] w fun r w' => r = .returned (.tuple #[]) ∧ Keeps w w' := by
  have hk : Keeps w (w.alloc (.cells #[.pointer (some ⟨g, 0, none⟩)] 96)) := (Keeps.refl _).alloc (Nat.le_refl _) _
  have HH := Lib.hid (h.keeps hk)
  have HK := Lib.hid hk
  have HB := Lib.hid (show Row (w.alloc (.cells #[.pointer (some ⟨g, 0, none⟩)] 96)) w.heap.size 0 [.pointer (some ⟨g, 0, none⟩)] from Row.new _ _ _ rfl)
  clear h hk
  have ER := fun W (hW : RdAt B W g v 0 l) => rdr_err_any g v 0 l W hW
  have HER := Lib.hid ER
  clear ER
  unfold rdV
  go_enter Tryd.func68, Tryd.ntmps68
  go_wp2
  generalize w.heap.size = p at *
  generalize w.alloc (.cells #[.pointer (some ⟨g, 0, none⟩)] 96) = W0 at *
  have HCE := Lib.hid (fun W (hk : Keeps W0 W) => (show W.cell? ⟨p, 0, none⟩ = some (.pointer (some ⟨g, 0, none⟩)) from ((HB.out.keeps hk) 0 _ rfl).1))
  refine wp_region_head (S := fun W => Hid ((fun W' => Keeps W0 W' ∧ W'.cell? ⟨p, 0, none⟩ = some (.pointer (some ⟨g, 0, none⟩))) W)) 8 (by kernel_rfl) (by kernel_rfl) ?_ (fun hHeld => ?_)
  focus exact Lib.hid ⟨keeps_drew (Keeps.refl W0), HCE.out _ (keeps_drew (Keeps.refl W0))⟩
  refine wpAnyHL_take (i := 0) (oi := ?_) (v := ?_) ?_ ?_ ?_ ?_ ?_ ?_ ?_ ?_ ?_ (Or.inl ⟨?_, ?_⟩) ?_ ?_
  rotate_left 2
  focus (simp only [List.getElem?_toArray, List.getElem?_cons_succ, List.getElem?_cons_zero]; exact rfl)
  focus kernel_rfl
  focus kernel_rfl
  focus kernel_rfl
  focus kernel_rfl
  focus kernel_rfl
  focus kernel_rfl
  focus kernel_rfl
  focus (exact fun _ _ _ h => h)
  focus rfl
  focus (intro wSw hSw; (have hSw := hSw.out); (refine run_load_row 96 (.tmp 1) ?_ p 0 ?_ _ _ (HB.out.keeps hSw.1) Tryd.underlying96 rfl rfl) <;> rfl)
  focus assumption
  try simp only [Act.put, List.setIfInBounds_toArray, List.set_cons_zero, List.set_cons_succ]
  refine wpAnyHL_take (i := 1) (oi := ?_) (v := ?_) ?_ ?_ ?_ ?_ ?_ ?_ ?_ ?_ ?_ (Or.inl ⟨?_, ?_⟩) ?_ ?_
  rotate_left 2
  focus (simp only [List.getElem?_toArray, List.getElem?_cons_succ, List.getElem?_cons_zero]; exact rfl)
  focus kernel_rfl
  focus kernel_rfl
  focus kernel_rfl
  focus kernel_rfl
  focus kernel_rfl
  focus kernel_rfl
  focus kernel_rfl
  focus (exact fun _ _ _ h => h)
  focus rfl
  focus ((intro wSw hSw; (have hSw := hSw.out); (try dsimp only at hSw); go_simp) <;> with_reducible rfl)
  focus assumption
  try simp only [Act.put, List.setIfInBounds_toArray, List.set_cons_zero, List.set_cons_succ]
  refine wpAnyHL_take (i := 2) (oi := ?_) (v := ?_) ?_ ?_ ?_ ?_ ?_ ?_ ?_ ?_ ?_ (Or.inl ⟨?_, ?_⟩) ?_ ?_
  rotate_left 2
  focus (simp only [List.getElem?_toArray, List.getElem?_cons_succ, List.getElem?_cons_zero]; exact rfl)
  focus kernel_rfl
  focus kernel_rfl
  focus kernel_rfl
  focus kernel_rfl
  focus kernel_rfl
  focus kernel_rfl
  focus kernel_rfl
  focus (exact fun _ _ _ h => h)
  focus rfl
  focus ((intro wSw hSw; (have hSw := hSw.out); (try dsimp only at hSw); go_simp) <;> with_reducible rfl)
  focus assumption
  try simp only [Act.put, List.setIfInBounds_toArray, List.set_cons_zero, List.set_cons_succ]
  refine wpAnyHL_take (i := 5) (oi := ?_) (v := ?_) ?_ ?_ ?_ ?_ ?_ ?_ ?_ ?_ ?_ (Or.inl ⟨?_, ?_⟩) ?_ ?_
  rotate_left 2
  focus (simp only [List.getElem?_toArray, List.getElem?_cons_succ, List.getElem?_cons_zero]; exact rfl)
  focus kernel_rfl
  focus kernel_rfl
  focus kernel_rfl
  focus kernel_rfl
  focus kernel_rfl
  focus kernel_rfl
  focus kernel_rfl
  focus (exact fun _ _ _ h => h)
  focus rfl
  focus ((intro wSw hSw; (have hSw := hSw.out); (try dsimp only at hSw); go_simp) <;> with_reducible rfl)
  focus assumption
  try simp only [Act.put, List.setIfInBounds_toArray, List.set_cons_zero, List.set_cons_succ]
  refine wpAnyHL_take (i := 6) (oi := ?_) (v := ?_) ?_ ?_ ?_ ?_ ?_ ?_ ?_ ?_ ?_ (Or.inl ⟨?_, ?_⟩) ?_ ?_
  rotate_left 2
  focus (simp only [List.getElem?_toArray, List.getElem?_cons_succ, List.getElem?_cons_zero]; exact rfl)
  focus kernel_rfl
  focus kernel_rfl
  focus kernel_rfl
  focus kernel_rfl
  focus kernel_rfl
  focus kernel_rfl
  focus kernel_rfl
  focus (exact fun _ _ _ h => h)
  focus rfl
  focus ((intro wSw hSw; (have hSw := hSw.out); (try dsimp only at hSw); go_simp) <;> with_reducible rfl)
  focus assumption
  try simp only [Act.put, List.setIfInBounds_toArray, List.set_cons_zero, List.set_cons_succ]
  refine wpAnyHL_one (i := 3) (o := ?_) (by kernel_rfl) (by kernel_rfl) ?_ ?_
  rotate_left 1
  focus (simp only [List.getElem?_toArray, List.getElem?_cons_succ, List.getElem?_cons_zero]; exact rfl)
  go_wp2_with (go_at_call 20; refine (HER.out _ (HH.out.keeps hHeld.out.1)).mono ?_; rintro r W1 ⟨rfl, rfl⟩)
  try dsimp only [StepQ]
  refine ⟨?_, fun hHeld => ?_⟩
  focus (exact Lib.hid (hHeld.out))
  try simp only [Act.put, List.setIfInBounds_toArray, List.set_cons_zero, List.set_cons_succ]
  refine wpAnyHL_take (i := 4) (oi := ?_) (v := ?_) ?_ ?_ ?_ ?_ ?_ ?_ ?_ ?_ ?_ (Or.inl ⟨?_, ?_⟩) ?_ ?_
  rotate_left 2
  focus (simp only [List.getElem?_toArray, List.getElem?_cons_succ, List.getElem?_cons_zero]; exact rfl)
  focus kernel_rfl
  focus kernel_rfl
  focus kernel_rfl
  focus kernel_rfl
  focus kernel_rfl
  focus kernel_rfl
  focus kernel_rfl
  focus (exact fun _ _ _ h => h)
  focus rfl
  focus ((intro wSw hSw; (have hSw := hSw.out); (try dsimp only at hSw); go_simp) <;> with_reducible rfl)
  focus assumption
  try simp only [Act.put, List.setIfInBounds_toArray, List.set_cons_zero, List.set_cons_succ]
  refine wpAnyHL_one (i := 7) (o := ?_) (by kernel_rfl) (by kernel_rfl) ?_ ?_
  rotate_left 1
  focus (simp only [List.getElem?_toArray, List.getElem?_cons_succ, List.getElem?_cons_zero]; exact rfl)
  go_wp2_with (go_at_call 20; refine (HER.out _ (HH.out.keeps hHeld.out.1)).mono ?_; rintro r W1 ⟨rfl, rfl⟩)
  try dsimp only [StepQ]
  refine ⟨?_, fun hHeld => ?_⟩
  focus (exact Lib.hid (hHeld.out))
  try simp only [Act.put, List.setIfInBounds_toArray, List.set_cons_zero, List.set_cons_succ]
  refine wpAnyHL_done (by kernel_rfl) ?_
  try simp only [List.drop_succ_cons, List.drop_zero]
  go_wp2_with (go_at_call 69; refine (must_no g 0 _).mono ?_; rintro r W2 ⟨rfl, hk⟩; have HK2 := Lib.hid hk; clear hk)
  go_end0
  exact ⟨rfl, HK.out.trans (hHeld.out.1.trans HK2.out)⟩
set_option maxRecDepth 100000 in
theorem fine_no (g : Nat) (v : Value) (c : Int) (hc : c ≠ 0) (l : List Int) (w : World) (h : RdAt B w g v c l) : Calls Tryd.prog 68 #[rdV g] w fun r w' => r = .panicked (stopT c) ∧ Keeps w w' := by
  have hk : Keeps w (w.alloc (.cells #[.pointer (some ⟨g, 0, none⟩)] 96)) := (Keeps.refl _).alloc (Nat.le_refl _) _
  have HH := Lib.hid (h.keeps hk)
  have HK := Lib.hid hk
  have HB := Lib.hid (show Row (w.alloc (.cells #[.pointer (some ⟨g, 0, none⟩)] 96)) w.heap.size 0 [.pointer (some ⟨g, 0, none⟩)] from Row.new _ _ _ rfl)
  clear h hk
  have ER := fun W (hW : RdAt B W g v c l) => rdr_err_any g v c l W hW
  have HER := Lib.hid ER
  clear ER
  unfold rdV
  go_enter Tryd.func68, Tryd.ntmps68
  go_wp2
  generalize w.heap.size = p at *
  generalize w.alloc (.cells #[.pointer (some ⟨g, 0, none⟩)] 96) = W0 at *
  have HCE := Lib.hid (fun W (hk : Keeps W0 W) => (show W.cell? ⟨p, 0, none⟩ = some (.pointer (some ⟨g, 0, none⟩)) from ((HB.out.keeps hk) 0 _ rfl).1))
  refine wp_region_head (S := fun W => Hid ((fun W' => Keeps W0 W' ∧ W'.cell? ⟨p, 0, none⟩ = some (.pointer (some ⟨g, 0, none⟩))) W)) 8 (by kernel_rfl) (by kernel_rfl) ?_ (fun hHeld => ?_)
  focus exact Lib.hid ⟨keeps_drew (Keeps.refl W0), HCE.out _ (keeps_drew (Keeps.refl W0))⟩
  refine wpAnyHL_take (i := 0) (oi := ?_) (v := ?_) ?_ ?_ ?_ ?_ ?_ ?_ ?_ ?_ ?_ (Or.inl ⟨?_, ?_⟩) ?_ ?_
  rotate_left 2
  focus (simp only [List.getElem?_toArray, List.getElem?_cons_succ, List.getElem?_cons_zero]; exact rfl)
  focus kernel_rfl
  focus kernel_rfl
  focus kernel_rfl
  focus kernel_rfl
  focus kernel_rfl
  focus kernel_rfl
  focus kernel_rfl
  focus (exact fun _ _ _ h => h)
  focus rfl
  focus (intro wSw hSw; (have hSw := hSw.out); (refine run_load_row 96 (.tmp 1) ?_ p 0 ?_ _ _ (HB.out.keeps hSw.1) Tryd.underlying96 rfl rfl) <;> rfl)
  focus assumption
  try simp only [Act.put, List.setIfInBounds_toArray, List.set_cons_zero, List.set_cons_succ]
  refine wpAnyHL_take (i := 1) (oi := ?_) (v := ?_) ?_ ?_ ?_ ?_ ?_ ?_ ?_ ?_ ?_ (Or.inl ⟨?_, ?_⟩) ?_ ?_
  rotate_left 2
  focus (simp only [List.getElem?_toArray, List.getElem?_cons_succ, List.getElem?_cons_zero]; exact rfl)
  focus kernel_rfl
  focus kernel_rfl
  focus kernel_rfl
  focus kernel_rfl
  focus kernel_rfl
  focus kernel_rfl
  focus kernel_rfl
  focus (exact fun _ _ _ h => h)
  focus rfl
  focus ((intro wSw hSw; (have hSw := hSw.out); (try dsimp only at hSw); go_simp) <;> with_reducible rfl)
  focus assumption
  try simp only [Act.put, List.setIfInBounds_toArray, List.set_cons_zero, List.set_cons_succ]
  refine wpAnyHL_take (i := 2) (oi := ?_) (v := ?_) ?_ ?_ ?_ ?_ ?_ ?_ ?_ ?_ ?_ (Or.inl ⟨?_, ?_⟩) ?_ ?_
  rotate_left 2
  focus (simp only [List.getElem?_toArray, List.getElem?_cons_succ, List.getElem?_cons_zero]; exact rfl)
  focus kernel_rfl
  focus kernel_rfl
  focus kernel_rfl
  focus kernel_rfl
  focus kernel_rfl
  focus kernel_rfl
  focus kernel_rfl
  focus (exact fun _ _ _ h => h)
  focus rfl
  focus ((intro wSw hSw; (have hSw := hSw.out); (try dsimp only at hSw); go_simp) <;> with_reducible rfl)
  focus assumption
  try simp only [Act.put, List.setIfInBounds_toArray, List.set_cons_zero, List.set_cons_succ]
  refine wpAnyHL_take (i := 5) (oi := ?_) (v := ?_) ?_ ?_ ?_ ?_ ?_ ?_ ?_ ?_ ?_ (Or.inl ⟨?_, ?_⟩) ?_ ?_
  rotate_left 2
  focus (simp only [List.getElem?_toArray, List.getElem?_cons_succ, List.getElem?_cons_zero]; exact rfl)
  focus kernel_rfl
  focus kernel_rfl
  focus kernel_rfl
  focus kernel_rfl
  focus kernel_rfl
  focus kernel_rfl
  focus kernel_rfl
  focus (exact fun _ _ _ h => h)
  focus rfl
  focus ((intro wSw hSw; (have hSw := hSw.out); (try dsimp only at hSw); go_simp) <;> with_reducible rfl)
  focus assumption
  try simp only [Act.put, List.setIfInBounds_toArray, List.set_cons_zero, List.set_cons_succ]
  refine wpAnyHL_take (i := 6) (oi := ?_) (v := ?_) ?_ ?_ ?_ ?_ ?_ ?_ ?_ ?_ ?_ (Or.inl ⟨?_, ?_⟩) ?_ ?_
  rotate_left 2
  focus (simp only [List.getElem?_toArray, List.getElem?_cons_succ, List.getElem?_cons_zero]; exact rfl)
  focus kernel_rfl
  focus kernel_rfl
  focus kernel_rfl
  focus kernel_rfl
  focus kernel_rfl
  focus kernel_rfl
  focus kernel_rfl
  focus (exact fun _ _ _ h => h)
  focus rfl
  focus ((intro wSw hSw; (have hSw := hSw.out); (try dsimp only at hSw); go_simp) <;> with_reducible rfl)
  focus assumption
  try simp only [Act.put, List.setIfInBounds_toArray, List.set_cons_zero, List.set_cons_succ]
  refine wpAnyHL_one (i := 3) (o := ?_) (by kernel_rfl) (by kernel_rfl) ?_ ?_
  rotate_left 1
  focus (simp only [List.getElem?_toArray, List.getElem?_cons_succ, List.getElem?_cons_zero]; exact rfl)
  go_wp2_with (go_at_call 20; refine (HER.out _ (HH.out.keeps hHeld.out.1)).mono ?_; rintro r W1 ⟨rfl, rfl⟩)
  try dsimp only [StepQ]
  refine ⟨?_, fun hHeld => ?_⟩
  focus (exact Lib.hid (hHeld.out))
  try simp only [Act.put, List.setIfInBounds_toArray, List.set_cons_zero, List.set_cons_succ]
  refine wpAnyHL_take (i := 4) (oi := ?_) (v := ?_) ?_ ?_ ?_ ?_ ?_ ?_ ?_ ?_ ?_ (Or.inl ⟨?_, ?_⟩) ?_ ?_
  rotate_left 2
  focus (simp only [List.getElem?_toArray, List.getElem?_cons_succ, List.getElem?_cons_zero]; exact rfl)
  focus kernel_rfl
  focus kernel_rfl
  focus kernel_rfl
  focus kernel_rfl
  focus kernel_rfl
  focus kernel_rfl
  focus kernel_rfl
  focus (exact fun _ _ _ h => h)
  focus rfl
  focus ((intro wSw hSw; (have hSw := hSw.out); (try dsimp only at hSw); go_simp) <;> with_reducible rfl)
  focus assumption
  try simp only [Act.put, List.setIfInBounds_toArray, List.set_cons_zero, List.set_cons_succ]
  refine wpAnyHL_one (i := 7) (o := ?_) (by kernel_rfl) (by kernel_rfl) ?_ ?_
  rotate_left 1
  focus (simp only [List.getElem?_toArray, List.getElem?_cons_succ, List.getElem?_cons_zero]; exact rfl)
  go_wp2_with (go_at_call 20; refine (HER.out _ (HH.out.keeps hHeld.out.1)).mono ?_; rintro r W1 ⟨rfl, rfl⟩)
  try dsimp only [StepQ]
  refine ⟨?_, fun hHeld => ?_⟩
  focus (exact Lib.hid (hHeld.out))
  try simp only [Act.put, List.setIfInBounds_toArray, List.set_cons_zero, List.set_cons_succ]
  refine wpAnyHL_done (by kernel_rfl) ?_
  try simp only [List.drop_succ_cons, List.drop_zero]
  go_wp2_with (go_at_call 69; rw [show (c != 0) = true from by simpa using hc]; refine (must_yes g c _).mono ?_; rintro r W2 ⟨rfl, hk⟩; have HK2 := Lib.hid hk; clear hk)
  exact ⟨rfl, rfl, HK.out.trans (hHeld.out.1.trans HK2.out)⟩
set_option maxRecDepth 100000 in
theorem number_t (g : Nat) (v : Value) (l : List Int) (w : World) (h : RdAt B w g v 0 l) (hB : B ≤ w.heap.size) (hg : g < w.heap.size) :
    Calls Tryd.prog 65 #[rdV g] w (ReadT B (rdNum 4) (encU .u32) g l w) := by
  have hk : Keeps w (w.alloc (.cells #[.pointer (some ⟨g, 0, none⟩)] 96)) := (Keeps.refl _).alloc (Nat.le_refl _) _
  have hsz : (w.alloc (.cells #[.pointer (some ⟨g, 0, none⟩)] 96)).heap.size = w.heap.size + 1 := by simp
  have HU := Lib.hid (rdr_u32_any g v 0 l _ (h.keeps hk) (by omega) (by omega))
  have HK := Lib.hid hk
  have HB := Lib.hid (show Row (w.alloc (.cells #[.pointer (some ⟨g, 0, none⟩)] 96)) w.heap.size 0 [.pointer (some ⟨g, 0, none⟩)] from Row.new _ _ _ rfl)
  have hne : w.heap.size ≠ g := by omega
  clear h hk hsz
  unfold rdV
  go_enter Tryd.func65, Tryd.ntmps65
  go_wp2_with (first
    | (go_at_call 36; refine HU.out.mono ?_; rintro r W1 ⟨hc, hcase⟩; have HC := Lib.hid hc; have c0 := ((HB.out.chg hc hne) 0 _ rfl).1; simp only [Nat.zero_add] at c0; clear hc; rcases hcase with ⟨h0, _⟩ | ⟨_, x, val, v', l', hp, rfl, rfl, hr⟩ | ⟨_, cc, hp, rfl, hr⟩)
    | (go_at_call 68; first
        | (refine (fine_ok g _ _ _ (by assumption)).mono ?_; rintro r W2 ⟨rfl, hk2⟩)
        | (refine (fine_no g _ _ (rdNum_err (by assumption)) _ _ (by assumption)).mono ?_; rintro r W2 ⟨rfl, hk2⟩)))
  · go_ret
    exact ⟨(HK.out.chg _).trans (HC.out.trans (hk2.chg _)), .inl ⟨x, _, v', l', hp, rfl, rfl, hr.keeps hk2⟩⟩
  · exact ⟨rfl, (HK.out.chg _).trans (HC.out.trans (hk2.chg _)), .inr ⟨cc, hp, rfl⟩⟩
set_option maxRecDepth 100000 in
theorem text_t (g : Nat) (v : Value) (l : List Int) (w : World) (h : RdAt B w g v 0 l) (hB : B ≤ w.heap.size) (hg : g < w.heap.size) :
    Calls Tryd.prog 75 #[rdV g] w (ReadT B (rdList 100000) (byV w.heap.size) g l w) := by
  have hk : Keeps w (w.alloc (.cells #[.pointer (some ⟨g, 0, none⟩)] 96)) := (Keeps.refl _).alloc (Nat.le_refl _) _
  have hsz : (w.alloc (.cells #[.pointer (some ⟨g, 0, none⟩)] 96)).heap.size = w.heap.size + 1 := by simp
  have HSZ := Lib.hid hsz
  have HU := Lib.hid (rdr_bytes_any g v 0 l 100000 _ (h.keeps hk) (by omega) (by omega))
  have HK := Lib.hid hk
  have HB := Lib.hid (show Row (w.alloc (.cells #[.pointer (some ⟨g, 0, none⟩)] 96)) w.heap.size 0 [.pointer (some ⟨g, 0, none⟩)] from Row.new _ _ _ rfl)
  have hne : w.heap.size ≠ g := by omega
  clear h hk hsz
  unfold rdV
  go_enter Tryd.func75, Tryd.ntmps75
  go_wp2_with (first
    | (go_at_call 19; refine HU.out.mono ?_; rintro r W1 ⟨hc, hcase⟩; have HC := Lib.hid hc; have c0 := ((HB.out.chg hc hne) 0 _ rfl).1; simp only [Nat.zero_add] at c0; clear hc; rcases hcase with ⟨h0, _⟩ | ⟨_, x, val, v', l', hp, rfl, hx, hr⟩ | ⟨_, cc, hp, rfl, hr⟩
       exact absurd rfl h0
       obtain ⟨n1, n2, n3, rfl⟩ := byV.slice hx
       have HX := Lib.hid hx
       clear hx)
    | (go_at_call 68; first
        | (refine (fine_ok g _ _ _ (by assumption)).mono ?_; rintro r W2 ⟨rfl, hk2⟩)
        | (refine (fine_no g _ _ (rdList_err (by assumption)) _ _ (by assumption)).mono ?_; rintro r W2 ⟨rfl, hk2⟩)))
  · go_ret
    exact ⟨(HK.out.chg _).trans (HC.out.trans (hk2.chg _)), .inl ⟨x, _, v', l', hp, rfl, ⟨(HX.out.1.keeps hk2), fun b hb => by have := HX.out.2 b hb; have := HSZ.out; omega⟩, hr.keeps hk2⟩⟩
  · exact ⟨rfl, (HK.out.chg _).trans (HC.out.trans (hk2.chg _)), .inr ⟨cc, hp, rfl⟩⟩
end Go.Proofs.YtcodpdpeklammaaDoor
