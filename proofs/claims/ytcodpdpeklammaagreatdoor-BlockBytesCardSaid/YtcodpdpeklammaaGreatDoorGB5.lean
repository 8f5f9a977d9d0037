/- tx.reader's fine, number, count, text. | tx.reader's count. | tx.reader's output. | tx.reader's input. -/
import Derived.Test.YtcodpdpeklammaaGreatDoorGB4
import Derived.Test.YtcodpdpeklammaaGreatDoorGA4
import Derived.Test.YtcodpdpeklammaaGreatDoorGA5
import Derived.Deep.RegionHeld3
import Derived.Test.YtcodpdpeklammaaGreatDoorGA7
import Derived.Laws.CopyOwn
namespace Go.Proofs.YtcodpdpeklammaaGreatDoor
set_option linter.unusedVariables false
set_option linter.unusedSimpArgs false
open Go Go.RowKit
variable {B : Nat}
/-- what a read of tx's reader does -/
def ReadT (B : Nat) {α : Type} (p : Rdr α) (enc : World → α → Value → Prop) (g : Nat) (l : List Int) (w : World) (r : Ending) (w' : World) : Prop :=
  Chg (· = g) w w' ∧ ((∃ x val v' l', p l = .ok (x, l') ∧ r = .returned val ∧ enc w' x val ∧ RdAt B w' g v' 0 l') ∨ (∃ c, p l = .error c ∧ r = .panicked (stopT c)))
theorem rdNum_err {n : Nat} {l : List Int} {c : Int} (h : rdNum n l = .error c) : c ≠ 0 := by
  by_cases hl : l.length < n
  · rw [num_no hl] at h; cases h; decide
  · rw [num_ok (by omega)] at h; cases h
theorem rdTake_err {n : Nat} {l : List Int} {c : Int} (h : rdTake n l = .error c) : c ≠ 0 := by
  by_cases hl : l.length < n
  · rw [take_no' hl] at h; cases h; decide
  · rw [take_ok' (by omega)] at h; cases h
theorem rdSize_err {l : List Int} {c : Int} (h : rdSize l = .error c) : c ≠ 0 := by
  unfold rdSize at h
  cases h1 : rdNum 1 l with
  | error d => rw [rdBind_err h1] at h; cases h; exact rdNum_err h1
  | ok p =>
    obtain ⟨y, r1⟩ := p
    rw [rdBind_ok h1] at h
    by_cases hy : y < 253
    · rw [if_pos hy] at h; cases h
    · rw [if_neg hy] at h
      cases h2 : rdNum (markLen y) r1 with
      | error d => rw [rdBind_err h2] at h; cases h; exact rdNum_err h2
      | ok p =>
        obtain ⟨z, r2⟩ := p
        rw [rdBind_ok h2] at h
        by_cases hz : (sizeB z).length ≠ markLen y + 1
        · rw [if_pos hz] at h; cases h; decide
        · rw [if_neg hz] at h
          by_cases hz2 : (33554432 : Int) < z
          · rw [if_pos hz2] at h; cases h; decide
          · rw [if_neg hz2] at h; cases h
theorem rdList_err {m : Int} {l : List Int} {c : Int} (h : rdList m l = .error c) : c ≠ 0 := by
  cases h1 : rdSize l with
  | error d => rw [list_size_err h1] at h; cases h; exact rdSize_err h1
  | ok p =>
    obtain ⟨y, r1⟩ := p
    rw [list_size_ok h1] at h
    split at h
    · cases h; decide
    · exact rdTake_err h
set_option maxRecDepth 100000 in
theorem fine_ok (g : Nat) (v : Value) (l : List Int) (w : World) (h : RdAt B w g v 0 l) : Calls Tryz.prog 102 #[rdV g] w fun r w' => r = .returned (.tuple #[]) ∧ Keeps w w' := by
  have hk : Keeps w (w.alloc (.cells #[.pointer (some ⟨g, 0, none⟩)] 125)) := (Keeps.refl _).alloc (Nat.le_refl _) _
  have HH := Lib.hid (h.keeps hk)
  have HK := Lib.hid hk
  have HB := Lib.hid (show Row (w.alloc (.cells #[.pointer (some ⟨g, 0, none⟩)] 125)) w.heap.size 0 [.pointer (some ⟨g, 0, none⟩)] from Row.new _ _ _ rfl)
  clear h hk
  have ER := fun W (hW : RdAt B W g v 0 l) => rdr_err_any g v 0 l W hW
  have HER := Lib.hid ER
  clear ER
  unfold rdV
  go_enter Tryz.func102, Tryz.ntmps102
  go_wp2
  generalize w.heap.size = p at *
  generalize w.alloc (.cells #[.pointer (some ⟨g, 0, none⟩)] 125) = W0 at *
  have HCE := Lib.hid (fun W (hk : Keeps W0 W) => (show W.cell? ⟨p, 0, none⟩ = some (.pointer (some ⟨g, 0, none⟩)) from ((HB.out.keeps hk) 0 _ rfl).1))
  refine wp_region_head (S := fun W => Hid ((fun W' => Keeps W0 W' ∧ W'.cell? ⟨p, 0, none⟩ = some (.pointer (some ⟨g, 0, none⟩))) W)) 8 (by kernel_rfl) (by kernel_rfl) ?_ (fun hHeld => ?_)
  focus exact Lib.hid ⟨keeps_drew (Keeps.refl W0), HCE.out _ (keeps_drew (Keeps.refl W0))⟩
  refine wpAnyHL_take (i := 0) (oi := ?_) (v := ?_) ?_ ?_ ?_ ?_ ?_ ?_ ?_ ?_ ?_ (Or.inl ⟨?_, ?_⟩) ?_ ?_
  rotate_left 2
  focus (simp only [List.getElem?_toArray, List.getElem?_cons_succ, List.getElem?_cons_zero]; exact rfl)
  iterate 7 focus kernel_rfl
  focus (exact fun _ _ _ h => h)
  focus rfl
  focus (intro wSw hSw; (have hSw := hSw.out); (refine run_load_row 125 (.tmp 1) ?_ p 0 ?_ _ _ (HB.out.keeps hSw.1) Tryz.underlying125 rfl rfl) <;> rfl)
  focus assumption
  try simp only [Act.put, List.setIfInBounds_toArray, List.set_cons_zero, List.set_cons_succ]
  refine wpAnyHL_take (i := 1) (oi := ?_) (v := ?_) ?_ ?_ ?_ ?_ ?_ ?_ ?_ ?_ ?_ (Or.inl ⟨?_, ?_⟩) ?_ ?_
  rotate_left 2
  focus (simp only [List.getElem?_toArray, List.getElem?_cons_succ, List.getElem?_cons_zero]; exact rfl)
  iterate 7 focus kernel_rfl
  focus (exact fun _ _ _ h => h)
  focus rfl
  focus ((intro wSw hSw; (have hSw := hSw.out); (try dsimp only at hSw); go_simp) <;> with_reducible rfl)
  focus assumption
  try simp only [Act.put, List.setIfInBounds_toArray, List.set_cons_zero, List.set_cons_succ]
  refine wpAnyHL_take (i := 2) (oi := ?_) (v := ?_) ?_ ?_ ?_ ?_ ?_ ?_ ?_ ?_ ?_ (Or.inl ⟨?_, ?_⟩) ?_ ?_
  rotate_left 2
  focus (simp only [List.getElem?_toArray, List.getElem?_cons_succ, List.getElem?_cons_zero]; exact rfl)
  iterate 7 focus kernel_rfl
  focus (exact fun _ _ _ h => h)
  focus rfl
  focus ((intro wSw hSw; (have hSw := hSw.out); (try dsimp only at hSw); go_simp) <;> with_reducible rfl)
  focus assumption
  try simp only [Act.put, List.setIfInBounds_toArray, List.set_cons_zero, List.set_cons_succ]
  refine wpAnyHL_take (i := 5) (oi := ?_) (v := ?_) ?_ ?_ ?_ ?_ ?_ ?_ ?_ ?_ ?_ (Or.inl ⟨?_, ?_⟩) ?_ ?_
  rotate_left 2
  focus (simp only [List.getElem?_toArray, List.getElem?_cons_succ, List.getElem?_cons_zero]; exact rfl)
  iterate 7 focus kernel_rfl
  focus (exact fun _ _ _ h => h)
  focus rfl
  focus ((intro wSw hSw; (have hSw := hSw.out); (try dsimp only at hSw); go_simp) <;> with_reducible rfl)
  focus assumption
  try simp only [Act.put, List.setIfInBounds_toArray, List.set_cons_zero, List.set_cons_succ]
  refine wpAnyHL_take (i := 6) (oi := ?_) (v := ?_) ?_ ?_ ?_ ?_ ?_ ?_ ?_ ?_ ?_ (Or.inl ⟨?_, ?_⟩) ?_ ?_
  rotate_left 2
  focus (simp only [List.getElem?_toArray, List.getElem?_cons_succ, List.getElem?_cons_zero]; exact rfl)
  iterate 7 focus kernel_rfl
  focus (exact fun _ _ _ h => h)
  focus rfl
  focus ((intro wSw hSw; (have hSw := hSw.out); (try dsimp only at hSw); go_simp) <;> with_reducible rfl)
  focus assumption
  try simp only [Act.put, List.setIfInBounds_toArray, List.set_cons_zero, List.set_cons_succ]
  refine wpAnyHL_one (i := 3) (o := ?_) (by kernel_rfl) (by kernel_rfl) ?_ ?_
  rotate_left 1
  focus (simp only [List.getElem?_toArray, List.getElem?_cons_succ, List.getElem?_cons_zero]; exact rfl)
  go_wp2_with (go_at_call 38; refine (HER.out _ (HH.out.keeps hHeld.out.1)).mono ?_; rintro r W1 ⟨rfl, rfl⟩)
  try dsimp only [StepQ]
  refine ⟨?_, fun hHeld => ?_⟩
  focus (exact Lib.hid (hHeld.out))
  try simp only [Act.put, List.setIfInBounds_toArray, List.set_cons_zero, List.set_cons_succ]
  refine wpAnyHL_take (i := 4) (oi := ?_) (v := ?_) ?_ ?_ ?_ ?_ ?_ ?_ ?_ ?_ ?_ (Or.inl ⟨?_, ?_⟩) ?_ ?_
  rotate_left 2
  focus (simp only [List.getElem?_toArray, List.getElem?_cons_succ, List.getElem?_cons_zero]; exact rfl)
  iterate 7 focus kernel_rfl
  focus (exact fun _ _ _ h => h)
  focus rfl
  focus ((intro wSw hSw; (have hSw := hSw.out); (try dsimp only at hSw); go_simp) <;> with_reducible rfl)
  focus assumption
  try simp only [Act.put, List.setIfInBounds_toArray, List.set_cons_zero, List.set_cons_succ]
  refine wpAnyHL_one (i := 7) (o := ?_) (by kernel_rfl) (by kernel_rfl) ?_ ?_
  rotate_left 1
  focus (simp only [List.getElem?_toArray, List.getElem?_cons_succ, List.getElem?_cons_zero]; exact rfl)
  go_wp2_with (go_at_call 38; refine (HER.out _ (HH.out.keeps hHeld.out.1)).mono ?_; rintro r W1 ⟨rfl, rfl⟩)
  try dsimp only [StepQ]
  refine ⟨?_, fun hHeld => ?_⟩
  focus (exact Lib.hid (hHeld.out))
  try simp only [Act.put, List.setIfInBounds_toArray, List.set_cons_zero, List.set_cons_succ]
  refine wpAnyHL_done (by kernel_rfl) ?_
  try simp only [List.drop_succ_cons, List.drop_zero]
  go_wp2_with (go_at_call 103; refine (must_no g 0 _).mono ?_; rintro r W2 ⟨rfl, hk⟩; have HK2 := Lib.hid hk; clear hk)
  go_end0
  exact ⟨rfl, HK.out.trans (hHeld.out.1.trans HK2.out)⟩
set_option maxRecDepth 100000 in
theorem fine_no (g : Nat) (v : Value) (c : Int) (hc : c ≠ 0) (l : List Int) (w : World) (h : RdAt B w g v c l) : Calls Tryz.prog 102 #[rdV g] w fun r w' => r = .panicked (stopT c) ∧ Keeps w w' := by
  have hk : Keeps w (w.alloc (.cells #[.pointer (some ⟨g, 0, none⟩)] 125)) := (Keeps.refl _).alloc (Nat.le_refl _) _
  have HH := Lib.hid (h.keeps hk)
  have HK := Lib.hid hk
  have HB := Lib.hid (show Row (w.alloc (.cells #[.pointer (some ⟨g, 0, none⟩)] 125)) w.heap.size 0 [.pointer (some ⟨g, 0, none⟩)] from Row.new _ _ _ rfl)
  clear h hk
  have ER := fun W (hW : RdAt B W g v c l) => rdr_err_any g v c l W hW
  have HER := Lib.hid ER
  clear ER
  unfold rdV
  go_enter Tryz.func102, Tryz.ntmps102
  go_wp2
  generalize w.heap.size = p at *
  generalize w.alloc (.cells #[.pointer (some ⟨g, 0, none⟩)] 125) = W0 at *
  have HCE := Lib.hid (fun W (hk : Keeps W0 W) => (show W.cell? ⟨p, 0, none⟩ = some (.pointer (some ⟨g, 0, none⟩)) from ((HB.out.keeps hk) 0 _ rfl).1))
  refine wp_region_head (S := fun W => Hid ((fun W' => Keeps W0 W' ∧ W'.cell? ⟨p, 0, none⟩ = some (.pointer (some ⟨g, 0, none⟩))) W)) 8 (by kernel_rfl) (by kernel_rfl) ?_ (fun hHeld => ?_)
  focus exact Lib.hid ⟨keeps_drew (Keeps.refl W0), HCE.out _ (keeps_drew (Keeps.refl W0))⟩
  refine wpAnyHL_take (i := 0) (oi := ?_) (v := ?_) ?_ ?_ ?_ ?_ ?_ ?_ ?_ ?_ ?_ (Or.inl ⟨?_, ?_⟩) ?_ ?_
  rotate_left 2
  focus (simp only [List.getElem?_toArray, List.getElem?_cons_succ, List.getElem?_cons_zero]; exact rfl)
  iterate 7 focus kernel_rfl
  focus (exact fun _ _ _ h => h)
  focus rfl
  focus (intro wSw hSw; (have hSw := hSw.out); (refine run_load_row 125 (.tmp 1) ?_ p 0 ?_ _ _ (HB.out.keeps hSw.1) Tryz.underlying125 rfl rfl) <;> rfl)
  focus assumption
  try simp only [Act.put, List.setIfInBounds_toArray, List.set_cons_zero, List.set_cons_succ]
  refine wpAnyHL_take (i := 1) (oi := ?_) (v := ?_) ?_ ?_ ?_ ?_ ?_ ?_ ?_ ?_ ?_ (Or.inl ⟨?_, ?_⟩) ?_ ?_
  rotate_left 2
  focus (simp only [List.getElem?_toArray, List.getElem?_cons_succ, List.getElem?_cons_zero]; exact rfl)
  iterate 7 focus kernel_rfl
  focus (exact fun _ _ _ h => h)
  focus rfl
  focus ((intro wSw hSw; (have hSw := hSw.out); (try dsimp only at hSw); go_simp) <;> with_reducible rfl)
  focus assumption
  try simp only [Act.put, List.setIfInBounds_toArray, List.set_cons_zero, List.set_cons_succ]
  refine wpAnyHL_take (i := 2) (oi := ?_) (v := ?_) ?_ ?_ ?_ ?_ ?_ ?_ ?_ ?_ ?_ (Or.inl ⟨?_, ?_⟩) ?_ ?_
  rotate_left 2
  focus (simp only [List.getElem?_toArray, List.getElem?_cons_succ, List.getElem?_cons_zero]; exact rfl)
  iterate 7 focus kernel_rfl
  focus (exact fun _ _ _ h => h)
  focus rfl
  focus ((intro wSw hSw; (have hSw := hSw.out); (try dsimp only at hSw); go_simp) <;> with_reducible rfl)
  focus assumption
  try simp only [Act.put, List.setIfInBounds_toArray, List.set_cons_zero, List.set_cons_succ]
  refine wpAnyHL_take (i := 5) (oi := ?_) (v := ?_) ?_ ?_ ?_ ?_ ?_ ?_ ?_ ?_ ?_ (Or.inl ⟨?_, ?_⟩) ?_ ?_
  rotate_left 2
  focus (simp only [List.getElem?_toArray, List.getElem?_cons_succ, List.getElem?_cons_zero]; exact rfl)
  iterate 7 focus kernel_rfl
  focus (exact fun _ _ _ h => h)
  focus rfl
  focus ((intro wSw hSw; (have hSw := hSw.out); (try dsimp only at hSw); go_simp) <;> with_reducible rfl)
  focus assumption
  try simp only [Act.put, List.setIfInBounds_toArray, List.set_cons_zero, List.set_cons_succ]
  refine wpAnyHL_take (i := 6) (oi := ?_) (v := ?_) ?_ ?_ ?_ ?_ ?_ ?_ ?_ ?_ ?_ (Or.inl ⟨?_, ?_⟩) ?_ ?_
  rotate_left 2
  focus (simp only [List.getElem?_toArray, List.getElem?_cons_succ, List.getElem?_cons_zero]; exact rfl)
  iterate 7 focus kernel_rfl
  focus (exact fun _ _ _ h => h)
  focus rfl
  focus ((intro wSw hSw; (have hSw := hSw.out); (try dsimp only at hSw); go_simp) <;> with_reducible rfl)
  focus assumption
  try simp only [Act.put, List.setIfInBounds_toArray, List.set_cons_zero, List.set_cons_succ]
  refine wpAnyHL_one (i := 3) (o := ?_) (by kernel_rfl) (by kernel_rfl) ?_ ?_
  rotate_left 1
  focus (simp only [List.getElem?_toArray, List.getElem?_cons_succ, List.getElem?_cons_zero]; exact rfl)
  go_wp2_with (go_at_call 38; refine (HER.out _ (HH.out.keeps hHeld.out.1)).mono ?_; rintro r W1 ⟨rfl, rfl⟩)
  try dsimp only [StepQ]
  refine ⟨?_, fun hHeld => ?_⟩
  focus (exact Lib.hid (hHeld.out))
  try simp only [Act.put, List.setIfInBounds_toArray, List.set_cons_zero, List.set_cons_succ]
  refine wpAnyHL_take (i := 4) (oi := ?_) (v := ?_) ?_ ?_ ?_ ?_ ?_ ?_ ?_ ?_ ?_ (Or.inl ⟨?_, ?_⟩) ?_ ?_
  rotate_left 2
  focus (simp only [List.getElem?_toArray, List.getElem?_cons_succ, List.getElem?_cons_zero]; exact rfl)
  iterate 7 focus kernel_rfl
  focus (exact fun _ _ _ h => h)
  focus rfl
  focus ((intro wSw hSw; (have hSw := hSw.out); (try dsimp only at hSw); go_simp) <;> with_reducible rfl)
  focus assumption
  try simp only [Act.put, List.setIfInBounds_toArray, List.set_cons_zero, List.set_cons_succ]
  refine wpAnyHL_one (i := 7) (o := ?_) (by kernel_rfl) (by kernel_rfl) ?_ ?_
  rotate_left 1
  focus (simp only [List.getElem?_toArray, List.getElem?_cons_succ, List.getElem?_cons_zero]; exact rfl)
  go_wp2_with (go_at_call 38; refine (HER.out _ (HH.out.keeps hHeld.out.1)).mono ?_; rintro r W1 ⟨rfl, rfl⟩)
  try dsimp only [StepQ]
  refine ⟨?_, fun hHeld => ?_⟩
  focus (exact Lib.hid (hHeld.out))
  try simp only [Act.put, List.setIfInBounds_toArray, List.set_cons_zero, List.set_cons_succ]
  refine wpAnyHL_done (by kernel_rfl) ?_
  try simp only [List.drop_succ_cons, List.drop_zero]
  go_wp2_with (go_at_call 103; rw [show (c != 0) = true from by simpa using hc]; refine (must_yes g c _).mono ?_; rintro r W2 ⟨rfl, hk⟩; have HK2 := Lib.hid hk; clear hk)
  exact ⟨rfl, rfl, HK.out.trans (hHeld.out.1.trans HK2.out)⟩
set_option maxRecDepth 100000 in
theorem number_t (g : Nat) (v : Value) (l : List Int) (w : World) (h : RdAt B w g v 0 l) (hB : B ≤ w.heap.size) (hg : g < w.heap.size) :
    Calls Tryz.prog 99 #[rdV g] w (ReadT B (rdNum 4) (encU .u32) g l w) := by
  have hk : Keeps w (w.alloc (.cells #[.pointer (some ⟨g, 0, none⟩)] 125)) := (Keeps.refl _).alloc (Nat.le_refl _) _
  have hsz : (w.alloc (.cells #[.pointer (some ⟨g, 0, none⟩)] 125)).heap.size = w.heap.size + 1 := by simp
  have HU := Lib.hid (rdr_u32_any g v 0 l _ (h.keeps hk) (by omega) (by omega))
  have HK := Lib.hid hk
  have HB := Lib.hid (show Row (w.alloc (.cells #[.pointer (some ⟨g, 0, none⟩)] 125)) w.heap.size 0 [.pointer (some ⟨g, 0, none⟩)] from Row.new _ _ _ rfl)
  have hne : w.heap.size ≠ g := by omega
  clear h hk hsz
  unfold rdV
  go_enter Tryz.func99, Tryz.ntmps99
  go_wp2_with (first
    | (go_at_call 56; refine HU.out.mono ?_; rintro r W1 ⟨hc, hcase⟩; have HC := Lib.hid hc; have c0 := ((HB.out.chg hc hne) 0 _ rfl).1; simp only [Nat.zero_add] at c0; clear hc; rcases hcase with ⟨h0, _⟩ | ⟨_, x, val, v', l', hp, rfl, rfl, hr⟩ | ⟨_, cc, hp, rfl, hr⟩)
    | (go_at_call 102; first
        | (refine (fine_ok g _ _ _ (by assumption)).mono ?_; rintro r W2 ⟨rfl, hk2⟩)
        | (refine (fine_no g _ _ (rdNum_err (by assumption)) _ _ (by assumption)).mono ?_; rintro r W2 ⟨rfl, hk2⟩)))
  · go_ret
    exact ⟨(HK.out.chg _).trans (HC.out.trans (hk2.chg _)), .inl ⟨x, _, v', l', hp, rfl, rfl, hr.keeps hk2⟩⟩
  · exact ⟨rfl, (HK.out.chg _).trans (HC.out.trans (hk2.chg _)), .inr ⟨cc, hp, rfl⟩⟩
set_option maxRecDepth 100000 in
theorem text_t (g : Nat) (v : Value) (l : List Int) (w : World) (h : RdAt B w g v 0 l) (hB : B ≤ w.heap.size) (hg : g < w.heap.size) :
    Calls Tryz.prog 109 #[rdV g] w (ReadT B (rdList 100000) (byV w.heap.size) g l w) := by
  have hk : Keeps w (w.alloc (.cells #[.pointer (some ⟨g, 0, none⟩)] 125)) := (Keeps.refl _).alloc (Nat.le_refl _) _
  have hsz : (w.alloc (.cells #[.pointer (some ⟨g, 0, none⟩)] 125)).heap.size = w.heap.size + 1 := by simp
  have HSZ := Lib.hid hsz
  have HU := Lib.hid (rdr_bytes_any g v 0 l 100000 _ (h.keeps hk) (by omega) (by omega))
  have HK := Lib.hid hk
  have HB := Lib.hid (show Row (w.alloc (.cells #[.pointer (some ⟨g, 0, none⟩)] 125)) w.heap.size 0 [.pointer (some ⟨g, 0, none⟩)] from Row.new _ _ _ rfl)
  have hne : w.heap.size ≠ g := by omega
  clear h hk hsz
  unfold rdV
  go_enter Tryz.func109, Tryz.ntmps109
  go_wp2_with (first
    | (go_at_call 37; refine HU.out.mono ?_; rintro r W1 ⟨hc, hcase⟩; have HC := Lib.hid hc; have c0 := ((HB.out.chg hc hne) 0 _ rfl).1; simp only [Nat.zero_add] at c0; clear hc; rcases hcase with ⟨h0, _⟩ | ⟨_, x, val, v', l', hp, rfl, hx, hr⟩ | ⟨_, cc, hp, rfl, hr⟩
       exact absurd rfl h0
       obtain ⟨n1, n2, n3, rfl⟩ := byV.slice hx
       have HX := Lib.hid hx
       clear hx)
    | (go_at_call 102; first
        | (refine (fine_ok g _ _ _ (by assumption)).mono ?_; rintro r W2 ⟨rfl, hk2⟩)
        | (refine (fine_no g _ _ (rdList_err (by assumption)) _ _ (by assumption)).mono ?_; rintro r W2 ⟨rfl, hk2⟩)))
  · go_ret
    exact ⟨(HK.out.chg _).trans (HC.out.trans (hk2.chg _)), .inl ⟨x, _, v', l', hp, rfl, ⟨(HX.out.1.keeps hk2), fun b hb => by have := HX.out.2 b hb; have := HSZ.out; omega⟩, hr.keeps hk2⟩⟩
  · exact ⟨rfl, (HK.out.chg _).trans (HC.out.trans (hk2.chg _)), .inr ⟨cc, hp, rfl⟩⟩
end Go.Proofs.YtcodpdpeklammaaGreatDoor
namespace Go.Proofs.YtcodpdpeklammaaGreatDoor
set_option linter.unusedVariables false
set_option linter.unusedSimpArgs false
open Go Go.RowKit
variable {B : Nat}
theorem count_err {l : List Int} {c : Int} (h : rdSize l = .error c) : rdCount l = .error c := by unfold rdCount; exact rdBind_err h
theorem count_big {l r : List Int} {x : Int} (h : rdSize l = .ok (x, r)) (hx : 25000 < x) : rdCount l = .error 2 := by unfold rdCount; rw [rdBind_ok h, if_pos hx]; rfl
theorem count_ok {l r : List Int} {x : Int} (h : rdSize l = .ok (x, r)) (hx : ¬ 25000 < x) : rdCount l = .ok (x.toNat, r) := by unfold rdCount; rw [rdBind_ok h, if_neg hx]; rfl
def encC (_ : World) (n : Nat) (v : Value) : Prop := v = .int .i64 n
set_option maxRecDepth 100000 in
theorem count_t (g : Nat) (v : Value) (l : List Int) (w : World) (h : RdAt B w g v 0 l) (hB : B ≤ w.heap.size) (hg : g < w.heap.size) :
    Calls Tryz.prog 100 #[rdV g] w (ReadT B rdCount encC g l w) := by
  have hby := Lib.hid h.bytes
  have hk : Keeps w (w.alloc (.cells #[.pointer (some ⟨g, 0, none⟩)] 125)) := (Keeps.refl _).alloc (Nat.le_refl _) _
  have hsz : (w.alloc (.cells #[.pointer (some ⟨g, 0, none⟩)] 125)).heap.size = w.heap.size + 1 := by simp
  have HU := Lib.hid (rdr_size_any g v 0 l _ (h.keeps hk) (by omega) (by omega))
  have HK := Lib.hid hk
  have HB := Lib.hid (show Row (w.alloc (.cells #[.pointer (some ⟨g, 0, none⟩)] 125)) w.heap.size 0 [.pointer (some ⟨g, 0, none⟩)] from Row.new _ _ _ rfl)
  have hne : w.heap.size ≠ g := by omega
  clear h hk hsz
  unfold rdV
  go_enter Tryz.func100, Tryz.ntmps100
  go_wp2_with (first
    | (go_at_call 36; refine HU.out.mono ?_; rintro r W1 ⟨hc, hcase⟩; have HC := Lib.hid hc; have HR1 := Lib.hid (HB.out.chg hc hne); have c0 := ((HB.out.chg hc hne) 0 _ rfl).1; simp only [Nat.zero_add] at c0; clear hc; rcases hcase with ⟨h0, _⟩ | ⟨_, x, val, v', l', hp, rfl, rfl, hr⟩ | ⟨_, cc, hp, rfl, hr⟩
       exact absurd rfl h0
       obtain ⟨x0, x1⟩ := rdSize_range hby.out hp
       have HX := Lib.hid (And.intro x0 x1)
       have hw : wrap64 x = x := by unfold wrap64; omega
       clear x0 x1
       by_cases hm : (25000 : Int) < x)
    | (go_at_call 102; first
        | (refine (fine_ok g _ _ _ (by assumption)).mono ?_; rintro r W2 ⟨rfl, hk2⟩; have c2 := ((HR1.out.keeps hk2) 0 _ rfl).1; simp only [Nat.zero_add] at c2)
        | (refine (fine_no g _ _ (rdSize_err (by assumption)) _ _ (by assumption)).mono ?_; rintro r W2 ⟨rfl, hk2⟩))
    | (go_at_call 103; first
        | (have hq : (25000 : Int) < x := by assumption
           refine (must_yes g _ _).mono ?_; rintro r W3 ⟨rfl, hk3⟩)
        | (have hq : ¬ (25000 : Int) < x := by omega
           try rw [decide_eq_false hq]
           refine (must_no g _ _).mono ?_; rintro r W3 ⟨rfl, hk3⟩)))
  · exact ⟨rfl, (HK.out.chg _).trans (HC.out.trans ((hk2.trans hk3).chg _)), .inr ⟨2, count_big hp (by assumption), rfl⟩⟩
  · go_ret
    have h0 := HX.out.1
    exact ⟨(HK.out.chg _).trans (HC.out.trans ((hk2.trans hk3).chg _)), .inl ⟨x.toNat, _, v', l', count_ok hp (by omega), rfl, (by show Value.int .i64 (wrap64 x) = Value.int .i64 _; rw [hw, Int.toNat_of_nonneg h0]), hr.keeps (hk2.trans hk3)⟩⟩
  · exact ⟨rfl, (HK.out.chg _).trans (HC.out.trans (hk2.chg _)), .inr ⟨cc, count_err hp, rfl⟩⟩
end Go.Proofs.YtcodpdpeklammaaGreatDoor
namespace Go.Proofs.YtcodpdpeklammaaGreatDoor
set_option linter.unusedVariables false
set_option linter.unusedSimpArgs false
open Go Go.RowKit
variable {B : Nat}
def encOut (A : Nat) (W : World) (d : OutD) (v : Value) : Prop := ∃ sv, v = .agg #[.int .i64 d.value, sv] ∧ byV A W d.script sv
theorem out_err {l : List Int} {c : Int} (h : rdNum 8 l = .error c) : rdOut l = .error c := by unfold rdOut; exact rdBind_err h
theorem out_err2 {l r : List Int} {x c : Int} (h : rdNum 8 l = .ok (x, r)) (h2 : rdList 100000 r = .error c) : rdOut l = .error c := by unfold rdOut; rw [rdBind_ok h]; exact rdBind_err h2
theorem out_ok {l r r2 s : List Int} {x : Int} (h : rdNum 8 l = .ok (x, r)) (h2 : rdList 100000 r = .ok (s, r2)) : rdOut l = .ok (⟨toI64 x, s⟩, r2) := by unfold rdOut; rw [rdBind_ok h, rdBind_ok h2]; rfl
theorem rdNum8 {l r : List Int} {x : Int} (hb : Bytes l) (h : rdNum 8 l = .ok (x, r)) : wrap64 x = toI64 x := by
  by_cases hl : l.length < 8
  · rw [num_no hl] at h; cases h
  · rw [num_ok (by omega)] at h
    have hs := leV_small l hb 8 (by omega)
    injection h with h
    obtain ⟨rfl, rfl⟩ := Prod.mk.inj h
    have h1 := hs.1
    have h2 := hs.2
    simp only [Int.reducePow] at h2
    unfold wrap64 toI64
    split <;> omega
set_option maxRecDepth 100000 in
theorem output_t (g : Nat) (v : Value) (l : List Int) (w : World) (h : RdAt B w g v 0 l) (hB : B ≤ w.heap.size) (hg : g < w.heap.size) :
    Calls Tryz.prog 107 #[rdV g] w (ReadT B rdOut (encOut w.heap.size) g l w) := by
  have hk : Keeps w ((w.alloc (.cells #[.pointer (some ⟨g, 0, none⟩)] 125)).alloc (.cells #[.int .i64 0, .slice none 0 0] 102)) := ((Keeps.refl _).alloc (Nat.le_refl _) _).alloc (by simp) _
  have hsz : ((w.alloc (.cells #[.pointer (some ⟨g, 0, none⟩)] 125)).alloc (.cells #[.int .i64 0, .slice none 0 0] 102)).heap.size = w.heap.size + 1 + 1 := by simp
  have HSZ := Lib.hid hsz
  have HU := Lib.hid (rdr_u64_any g v 0 l _ (h.keeps hk) (by omega) (by omega))
  have HK := Lib.hid hk
  have HB := Lib.hid (show Row ((w.alloc (.cells #[.pointer (some ⟨g, 0, none⟩)] 125)).alloc (.cells #[.int .i64 0, .slice none 0 0] 102)) w.heap.size 0 [.pointer (some ⟨g, 0, none⟩)] from (Row.new _ _ _ rfl).alloc _)
  have HQ := Lib.hid (show Row ((w.alloc (.cells #[.pointer (some ⟨g, 0, none⟩)] 125)).alloc (.cells #[.int .i64 0, .slice none 0 0] 102)) (w.heap.size + 1) 0 [.int .i64 0, .slice none 0 0] by
    have := Row.new (w := (w.alloc (.cells #[.pointer (some ⟨g, 0, none⟩)] 125))) [.int .i64 0, .slice none 0 0] _ 102 rfl
    simpa using this)
  have hne : w.heap.size ≠ g := by omega
  have hnq : w.heap.size + 1 ≠ g := by omega
  have HBG := Lib.hid (And.intro hB hg)
  have HBY := Lib.hid h.bytes
  clear h hk hsz
  unfold rdV
  go_enter Tryz.func107, Tryz.ntmps107
  go_wp2_with (first
    | (go_at_call 122; refine HU.out.mono ?_; rintro r W1 ⟨hc, hcase⟩; have HC := Lib.hid hc; have HR1 := Lib.hid (HB.out.chg hc hne); have HQ1 := Lib.hid (HQ.out.chg hc hnq); have c0 := ((HB.out.chg hc hne) 0 _ rfl).1; simp only [Nat.zero_add] at c0; clear hc; rcases hcase with ⟨h0, _⟩ | ⟨_, x, val, v', l', hp, rfl, rfl, hr⟩ | ⟨_, cc, hp, rfl, hr⟩)
    | (go_at_call 102; first
        | (refine (fine_ok g _ _ _ (by assumption)).mono ?_; rintro r W2 ⟨rfl, hk2⟩; have c2 := ((HR1.out.keeps hk2) 0 _ rfl).1; simp only [Nat.zero_add] at c2)
        | (refine (fine_no g _ _ (rdNum_err (by assumption)) _ _ (by assumption)).mono ?_; rintro r W2 ⟨rfl, hk2⟩))
    | (go_at_call 109; refine (text_t g _ _ _ (hr.keeps hk2) (by have := HBG.out.1; have := HSZ.out; have := HC.out.size; have := hk2.size; omega) (by have := HBG.out.2; have := HSZ.out; have := HC.out.size; have := hk2.size; omega)).mono ?_; intro r W3 hp0; obtain ⟨hc3, hcs⟩ := hp0; have HC3 := Lib.hid hc3; have HQ3 := Lib.hid ((HQ1.out.keeps hk2).chg hc3 hnq); obtain ⟨e0, f0⟩ := HQ3.out 0 _ rfl; obtain ⟨e1, f1⟩ := HQ3.out 1 _ rfl; simp only [Nat.zero_add] at e0 f0 e1 f1; clear hc3; rcases hcs with ⟨y, valy, v3, l3, hp3, rfl, hy, hr3⟩ | ⟨c3, hp3, rfl⟩
       obtain ⟨n1, n2, n3, rfl⟩ := byV.slice hy
       have HY := Lib.hid hy
       clear hy))
  · refine bodyPost_ret (v := .agg #[.int .i64 (wrap64 x), .slice n1 n2 n3]) (by simp [results, Tryz.results107, go_sem, e0, e1, f0, f1]) rfl ?_
    have s1 := HSZ.out
    have s2 := HC.out.size
    have s3 := hk2.size
    have hlt : w.heap.size + 1 < W2.heap.size := by omega
    have hY := (HY.out.set (p := ⟨w.heap.size + 1, 0, none⟩) hlt (.int .i64 (wrap64 x))).set (p := ⟨w.heap.size + 1, 1, none⟩) hlt (.slice n1 n2 n3)
    refine ⟨((((HK.out.chg _).trans (HC.out.trans ((hk2.chg _).trans HC3.out))).setCell (.inl (by show w.heap.size ≤ w.heap.size + 1; omega)) _).setCell (.inl (by show w.heap.size ≤ w.heap.size + 1; omega)) _), .inl ⟨⟨toI64 x, y⟩, _, v3, l3, out_ok hp hp3, rfl, ⟨.slice n1 n2 n3, ?_, hY.1, fun b hb => by have := hY.2 b hb; omega⟩, ?_⟩⟩
    · show Value.agg #[.int .i64 (wrap64 x), .slice n1 n2 n3] = _
      rw [rdNum8 HBY.out hp]
    · exact (hr3.other (by show B ≤ w.heap.size + 1; omega) (fun e => hnq e.symm) _).other (by show B ≤ w.heap.size + 1; omega) (fun e => hnq e.symm) _
  · exact ⟨rfl, (HK.out.chg _).trans (HC.out.trans ((hk2.chg _).trans HC3.out)), .inr ⟨c3, out_err2 hp hp3, rfl⟩⟩
  · exact ⟨rfl, (HK.out.chg _).trans (HC.out.trans (hk2.chg _)), .inr ⟨cc, out_err hp, rfl⟩⟩
end Go.Proofs.YtcodpdpeklammaaGreatDoor
namespace Go.Proofs.YtcodpdpeklammaaGreatDoor
set_option linter.unusedVariables false
set_option linter.unusedSimpArgs false
open Go Go.RowKit
variable {B : Nat}

/-- a whole block -/
def Blk (W : World) (g : Nat) (cs : List Value) (T : TypeId) : Prop := W.heap[g]? = some (.cells cs.toArray T (0, 0))
theorem Blk.lt {W : World} {g : Nat} {cs : List Value} {T : TypeId} (h : Blk W g cs T) : g < W.heap.size := (Array.getElem?_eq_some_iff.1 h).1
theorem Blk.row {W : World} {g : Nat} {cs : List Value} {T : TypeId} (h : Blk W g cs T) : Row W g 0 cs := fun j v hv => by
  rw [Nat.zero_add]
  refine ⟨?_, frozen_of_row _ _ _ _ _ h⟩
  rw [cell_of_row _ _ _ _ _ _ h]
  simpa using hv
theorem Blk.chg {S : Nat → Prop} {W W' : World} {g : Nat} {cs : List Value} {T : TypeId} (h : Blk W g cs T) (hc : Chg S W W') (hs : ¬ S g) : Blk W' g cs T := by
  unfold Blk; rw [hc.block g h.lt hs]; exact h
theorem Blk.keeps {W W' : World} {g : Nat} {cs : List Value} {T : TypeId} (h : Blk W g cs T) (hk : Keeps W W') : Blk W' g cs T := h.chg (hk.chg (fun _ => False)) (fun h => h)
theorem Blk.new (w : World) (cs : Array Value) (T : TypeId) : Blk (w.alloc (.cells cs T)) w.heap.size cs.toList T := by
  unfold Blk
  exact heap_alloc_new w _
theorem wp_rows3b {P : Program} {c : Code} {Q : Exit → Act → World → Prop} {a : Act} {w : World} {A B C : Array Value} {T U V : TypeId}
    (h : ∀ W, Keeps w W → Row W w.heap.size 0 A.toList → Row W (w.heap.size + 1) 0 B.toList → Blk W (w.heap.size + 1 + 1) C.toList V → W.heap.size = w.heap.size + 3 → Code.wp P c Q a W) :
    Code.wp P c Q a (((w.alloc (.cells A T)).alloc (.cells B U)).alloc (.cells C V)) := by
  have h0 := Row.new (w := w) A.toList A T (by simp)
  have h1 := Row.new (w := w.alloc (.cells A T)) B.toList B U (by simp)
  have h2 := Blk.new ((w.alloc (.cells A T)).alloc (.cells B U)) C V
  refine h _ (keeps_alloc (keeps_alloc (keeps_alloc (Keeps.refl w) _) _) _) ((h0.alloc _).alloc _) ?_ ?_ (by simp)
  · have := h1.alloc (.cells C V); simpa using this
  · simpa using h2
/-- what is read copied into a whole block -/
theorem wpList_copy_blk {w : World} {ops : Array Oper} {rest : List Oper} {o : Oper} {a : Act} {Q : Exit → Act → World → Prop} (hgd : o.guard = none) (d s : Operand)
    (ho : o.op = .call { callee := .builtin .copy, args := #[d, s], argTypes := #[32, 32] }) (g off m c1 : Nat) (hd : a.eval d = .slice (some ⟨g, off, none⟩) m c1) (sa : Option Addr) (n cap : Nat) (hs : a.eval s = .slice sa n cap) (hn : n ≤ m)
    (cur : List Value) (T : TypeId) (hg : Blk w g cur T) (hcur : off + n ≤ cur.length) (xs : List Value) (hr : Rd w 1 (.slice sa n cap) n xs) (h1 : ∀ v ∈ xs, v.oneCell' = true)
    (h : ∀ w', Blk w' g (cur.take off ++ (xs ++ cur.drop (off + n))) T → Chg (· = g) w w' → wpList Tryz.prog ops Q rest (a.put o.dst (goInt n)) w') : wpList Tryz.prog ops Q (o :: rest) a w := by
  have hxl : xs.length = n := by have := hr.1; simpa using this
  have sz : (Tryz.prog.info? 5).map (·.size) = some 1 := by kernel_rfl
  obtain ⟨_, a', cap', e, h2, h3, h4, h5⟩ := hr
  cases e
  by_cases h0 : n = 0
  · subst h0
    have hx0 : xs = [] := List.eq_nil_of_length_eq_zero hxl
    subst hx0
    exact wpList_copy_nothing hgd d s _ _ ho 5 Tryz.underlying32 sz _ _ _ _ _ _ hd hs (by simp) (h _ (by simpa using hg) (Chg.refl _ _))
  · cases sa with
    | none => exact absurd (h4 rfl).1 h0
    | some ad =>
      obtain ⟨g2, off2, rfl, _, hrow⟩ := h5 ad rfl (by omega)
      have hadd : ∀ j, (⟨g2, off2, none⟩ : Addr).add j = ⟨g2, off2 + j, none⟩ := fun j => by unfold Addr.add; split <;> simp_all
      refine wpList_copy_own (w := w) hgd d s _ _ ho 5 Tryz.underlying32 sz g off m c1 ⟨g2, off2, none⟩ n cap hd hs cur.toArray T hg xs (by rw [hxl]; exact (Nat.min_eq_left hn).symm) (fun j v hv => by rw [hadd]; exact (hrow j v hv).1) (by simp; omega) h1 ?_
      rw [hxl]
      refine h _ ?_ ⟨rfl, rfl, rfl, by simp [World.setRow], fun k _ hk => setRow_other _ _ _ _ hk⟩
      unfold Blk
      rw [setRow_heap _ _ _ _ _ _ hg]
/-- a read that keeps the first error -/
def StP {α : Type} (p : Rdr α) (e : Int) (l : List Int) (x : α) (e' : Int) (l' : List Int) : Prop :=
  (e ≠ 0 ∧ e' = e ∧ l' = l) ∨ (e = 0 ∧ e' = 0 ∧ p l = .ok (x, l')) ∨ (e = 0 ∧ e' ≠ 0 ∧ p l = .error e' ∧ l' = l)
def RawS (B g k : Nat) (e : Int) (l : List Int) (w : World) (r : Ending) (W' : World) : Prop :=
  Chg (· = g) w W' ∧ ∃ a n c xs v' e' l', r = .returned (.slice a n c) ∧ Rd W' 1 (.slice a n c) n (xs.map (Value.int .u8)) ∧ n ≤ k ∧ RdAt B W' g v' e' l' ∧ StP (rdTake k) e l xs e' l' ∧ (e' = 0 → n = k)
theorem rd_nil (W : World) : Rd W 1 (.slice none 0 0) 0 [] := (Buf.nil W 1).rd
theorem raw_s (g : Nat) (v : Value) (e : Int) (l : List Int) (k : Nat) (hk : k ≤ 140737488355328) (w : World) (h : RdAt B w g v e l) (hB : B ≤ w.heap.size) (hg : g < w.heap.size) :
    Calls Tryz.prog 57 #[.pointer (some ⟨g, 0, none⟩), .int .i64 k] w (RawS B g k e l w) := by
  refine (rdr_raw_any g v e l k hk w h hB hg).mono ?_
  rintro r W' ⟨hc, hcase⟩
  refine ⟨hc, ?_⟩
  rcases hcase with ⟨h0, rfl, hr⟩ | ⟨rfl, x, val, v', l', hp, rfl, hx, hr⟩ | ⟨rfl, c, hp, rfl, hr⟩
  · exact ⟨none, 0, 0, [], v, e, l, rfl, rd_nil _, Nat.zero_le _, hr, .inl ⟨h0, rfl, rfl⟩, fun h => absurd h h0⟩
  · obtain ⟨h3, rfl, rfl⟩ := rdTake_inv hp
    obtain ⟨a, c, rfl, _⟩ := hx.1.any
    have hl : (l.take k).length = k := by simp; omega
    exact ⟨a, (l.take k).length, c, l.take k, v', 0, l.drop k, rfl, hx.1.rd, by omega, hr, .inr (.inl ⟨rfl, rfl, hp⟩), fun _ => hl⟩
  · exact ⟨none, 0, 0, [], v, c, l, rfl, rd_nil _, Nat.zero_le _, hr, .inr (.inr ⟨rfl, rdTake_err hp, hp, rfl⟩), fun h => absurd h (rdTake_err hp)⟩
set_option maxRecDepth 100000 in
theorem number_e (g : Nat) (v : Value) (c : Int) (hc : c ≠ 0) (l : List Int) (w : World) (h : RdAt B w g v c l) (hB : B ≤ w.heap.size) (hg : g < w.heap.size) :
    Calls Tryz.prog 99 #[rdV g] w fun r w' => r = .panicked (stopT c) ∧ Chg (· = g) w w' := by
  have hk : Keeps w (w.alloc (.cells #[.pointer (some ⟨g, 0, none⟩)] 125)) := (Keeps.refl _).alloc (Nat.le_refl _) _
  have hsz : (w.alloc (.cells #[.pointer (some ⟨g, 0, none⟩)] 125)).heap.size = w.heap.size + 1 := by simp
  have HU := Lib.hid (rdr_u32_any g v c l _ (h.keeps hk) (by omega) (by omega))
  have HK := Lib.hid hk
  have HB := Lib.hid (show Row (w.alloc (.cells #[.pointer (some ⟨g, 0, none⟩)] 125)) w.heap.size 0 [.pointer (some ⟨g, 0, none⟩)] from Row.new _ _ _ rfl)
  have hne : w.heap.size ≠ g := by omega
  have HC0 := Lib.hid hc
  clear h hk hsz hc
  unfold rdV
  go_enter Tryz.func99, Tryz.ntmps99
  go_wp2_with (first
    | (go_at_call 56; refine HU.out.mono ?_; rintro r W1 ⟨hc, hcase⟩; have HC := Lib.hid hc; have c0 := ((HB.out.chg hc hne) 0 _ rfl).1; simp only [Nat.zero_add] at c0; clear hc; rcases hcase with ⟨h0, rfl, hr⟩ | ⟨h0, _⟩ | ⟨h0, _⟩
       rotate_left
       exact absurd h0 HC0.out
       exact absurd h0 HC0.out)
    | (go_at_call 102; refine (fine_no g _ _ HC0.out _ _ (by assumption)).mono ?_; rintro r W2 ⟨rfl, hk2⟩))
  exact ⟨rfl, rfl, (HK.out.chg _).trans (HC.out.trans (hk2.chg _))⟩
/-- input's memory: its receiver, its result, its input as far as it is read -/
structure InSt (B p g : Nat) (W : World) (v : Value) (e : Int) (l : List Int) (cs : List Value) : Prop where
  box : Row W p 0 [.pointer (some ⟨g, 0, none⟩)]
  res : Row W (p + 1) 0 zeroIn
  loc : Row W (p + 1 + 1) 0 cs
  lt : p + 3 ≤ W.heap.size
  gp : g < p ∧ B ≤ p
  rd : RdAt B W g v e l
theorem InSt.next {p g : Nat} {W W' : World} {v v' : Value} {e e' : Int} {l l' : List Int} {cs : List Value} (h : InSt B p g W v e l cs) (hc : Chg (· = g) W W') (hr : RdAt B W' g v' e' l') : InSt B p g W' v' e' l' cs := by
  have := h.gp.1
  exact ⟨h.box.chg hc (by omega), h.res.chg hc (by omega), h.loc.chg hc (by omega), Nat.le_trans h.lt hc.size, h.gp, hr⟩
theorem InSt.put {p g : Nat} {W : World} {v : Value} {e : Int} {l : List Int} {cs : List Value} (h : InSt B p g W v e l cs) (k : Nat) (hk : k < cs.length) (u : Value) : InSt B p g (W.setCell ⟨p + 1 + 1, k, none⟩ u) v e l (cs.set k u) := by
  have hg := h.gp
  refine ⟨h.box.other (by show p ≠ p + 1 + 1; omega) u, h.res.other (by show p + 1 ≠ p + 1 + 1; omega) u, ?_, by simpa using h.lt, hg, h.rd.other (by show B ≤ p + 1 + 1; omega) (by show g ≠ p + 1 + 1; omega) u⟩
  have := h.loc.set k hk u
  rwa [Nat.zero_add] at this
theorem InSt.c0 {p g : Nat} {W : World} {v : Value} {e : Int} {l : List Int} {cs : List Value} (h : InSt B p g W v e l cs) : W.cell? ⟨p, 0, none⟩ = some (.pointer (some ⟨g, 0, none⟩)) := by
  have := (h.box 0 _ rfl).1; simpa using this
theorem row_free {w : World} {b : Nat} {d : InD} {sv wv : Value} (h : Row w b 0 (inCells d sv wv)) (hl : d.hash.length = 32) :
    (w.cell? ⟨b, 32, none⟩ = some (.int .u32 d.index) ∧ w.frozen? ⟨b, 32, none⟩ = false) ∧ (w.cell? ⟨b, 33, none⟩ = some sv ∧ w.frozen? ⟨b, 33, none⟩ = false) ∧ (w.cell? ⟨b, 34, none⟩ = some (.int .u32 d.seq) ∧ w.frozen? ⟨b, 34, none⟩ = false) ∧ (w.cell? ⟨b, 35, none⟩ = some wv ∧ w.frozen? ⟨b, 35, none⟩ = false) := by
  have key : ∀ k u, (inCells d sv wv)[k]? = some u → w.cell? ⟨b, k, none⟩ = some u ∧ w.frozen? ⟨b, k, none⟩ = false := fun k u hu => by
    have := h k u hu
    simpa using this
  refine ⟨key 32 _ ?_, key 33 _ ?_, key 34 _ ?_, key 35 _ ?_⟩ <;> (unfold inCells; rw [List.getElem?_append_right (by simp [hl])]; simp [hl])
theorem inCells_set32 (d : InD) (sv wv : Value) (q : Int) (h : d.hash.length = 32) : (inCells d sv wv).set 32 (.int .u32 q) = inCells { d with index := q } sv wv := by
  unfold inCells
  rw [List.set_append_right _ _ (by simp [h])]
  simp [h]
theorem zeroIn_copy (h : List Int) : zeroIn.take 0 ++ (h.map (Value.int .u8) ++ zeroIn.drop (0 + 32)) = inCells ⟨h, 0, [], 0, []⟩ (.slice none 0 0) (.slice none 0 0) := by
  rw [List.take_zero, List.nil_append]
  rfl
theorem byV.chg {A : Nat} {S : Nat → Prop} {W W' : World} {x : List Int} {v : Value} (h : byV A W x v) (hc : Chg S W W') (hs : ∀ b, A ≤ b → ¬ S b) : byV A W' x v :=
  ⟨h.1.chg hc (fun b hb e => hs b (h.2 b hb) e), h.2⟩
theorem byV.low {A A' : Nat} {W : World} {x : List Int} {v : Value} (h : byV A W x v) (ha : A' ≤ A) : byV A' W x v := ⟨h.1, fun b hb => Nat.le_trans ha (h.2 b hb)⟩
/-- an input that was read: all it leads to lies in blocks of A and more -/
def encIn (A : Nat) (W : World) (d : InD) (v : Value) : Prop := ∃ sv, v = .agg (inCells d sv (.slice none 0 0)).toArray ∧ byV A W d.script sv
theorem in_err1 {l : List Int} {c : Int} (h : rdTake 32 l = .error c) : rdIn l = .error c := by unfold rdIn; exact rdBind_err h
theorem in_err2 {l r : List Int} {x : List Int} {c : Int} (h : rdTake 32 l = .ok (x, r)) (h2 : rdNum 4 r = .error c) : rdIn l = .error c := by unfold rdIn; rw [rdBind_ok h]; exact rdBind_err h2
theorem in_err3 {l r r2 : List Int} {x : List Int} {i c : Int} (h : rdTake 32 l = .ok (x, r)) (h2 : rdNum 4 r = .ok (i, r2)) (h3 : rdList 100000 r2 = .error c) : rdIn l = .error c := by unfold rdIn; rw [rdBind_ok h, rdBind_ok h2]; exact rdBind_err h3
theorem in_err4 {l r r2 r3 : List Int} {x s : List Int} {i c : Int} (h : rdTake 32 l = .ok (x, r)) (h2 : rdNum 4 r = .ok (i, r2)) (h3 : rdList 100000 r2 = .ok (s, r3)) (h4 : rdNum 4 r3 = .error c) : rdIn l = .error c := by unfold rdIn; rw [rdBind_ok h, rdBind_ok h2, rdBind_ok h3]; exact rdBind_err h4
theorem in_ok {l r r2 r3 r4 : List Int} {x s : List Int} {i q : Int} (h : rdTake 32 l = .ok (x, r)) (h2 : rdNum 4 r = .ok (i, r2)) (h3 : rdList 100000 r2 = .ok (s, r3)) (h4 : rdNum 4 r3 = .ok (q, r4)) : rdIn l = .ok (⟨x, i, s, q, []⟩, r4) := by unfold rdIn; rw [rdBind_ok h, rdBind_ok h2, rdBind_ok h3, rdBind_ok h4]; rfl
end Go.Proofs.YtcodpdpeklammaaGreatDoor
