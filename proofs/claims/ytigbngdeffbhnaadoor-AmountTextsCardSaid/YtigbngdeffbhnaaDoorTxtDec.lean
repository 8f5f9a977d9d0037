/- The reference's Decimal and Format. -/
import Derived.Test.YtigbngdeffbhnaaDoorTxtFmt
import Derived.Deep.RegionHeld3
import Derived.Laws.IdiomStrings
namespace Go.Proofs.YtigbngdeffbhnaaDoor
set_option linter.unusedVariables false
set_option linter.unusedSimpArgs false
open Go Go.RowKit

/-- a digit's letter -/
def dch (d : Nat) : UInt8 := UInt8.ofNat (48 + d)
theorem dch_toNat (d : Nat) (h : d < 10) : ((dch d).toNat : Int) = 48 + (d : Int) := by unfold dch; rw [UInt8.toNat_ofNat']; omega
theorem alloc_cell0 (W : World) (v : Value) (T : TypeId) : (W.alloc (.cells #[v] T)).cell? ⟨W.heap.size, 0, none⟩ = some v := by
  rw [World.cell?_alloc_at _ _ _ _ rfl]; rfl
theorem conv1 (W : World) (b : Nat) (d : Nat) (hd : d < 10) (h : W.cell? ⟨b, 0, none⟩ = some (.int .u8 (48 + (d : Int)))) :
    (convert 51 9 (.slice (some ⟨b, 0, none⟩) 1 1)).run Tryd.prog W = .ok (.string ⟨#[dch d]⟩) W :=
  run_convert_bytes_back (P := Tryd.prog) W 51 9 5 ⟨b, 0, none⟩ 1 [dch d] Tryd.underlying51 Tryd.underlying5 Tryd.underlying9 (fun j hj => by
    obtain rfl : j = 0 := by simpa using hj
    show W.cell? ⟨b, 0 + 0, none⟩ = some (.int .u8 ((dch d).toNat : Int))
    rw [dch_toNat d hd]
    exact h)
theorem conv1a (d : Nat) (hd : d < 10) (W0 : World) :
    (convert 51 9 (.slice (some ⟨W0.heap.size, 0, none⟩) 1 1)).run Tryd.prog (W0.alloc (.cells #[.int .u8 (48 + (d : Int))] 5)) = .ok (.string ⟨#[dch d]⟩) (W0.alloc (.cells #[.int .u8 (48 + (d : Int))] 5)) :=
  conv1 _ _ d hd (alloc_cell0 _ _ _)
theorem conv1d (d : Nat) (hd : d < 10) (W0 : World) :
    (convert 51 9 (.slice (some ⟨W0.heap.size, 0, none⟩) 1 1)).run Tryd.prog (W0.alloc (.cells #[.int .u8 (48 + (d : Int))] 5)).drew = .ok (.string ⟨#[dch d]⟩) (W0.alloc (.cells #[.int .u8 (48 + (d : Int))] 5)).drew :=
  conv1 _ _ d hd (alloc_cell0 _ _ _)
theorem conv1k {W0 W2 : World} {d : Nat} (hk : Keeps (W0.alloc (.cells #[.int .u8 (48 + (d : Int))] 5)).drew W2) (hd : d < 10) :
    (convert 51 9 (.slice (some ⟨W0.heap.size, 0, none⟩) 1 1)).run Tryd.prog W2 = .ok (.string ⟨#[dch d]⟩) W2 :=
  conv1 _ _ d hd (by
    have h := alloc_cell0 W0 (.int .u8 (48 + (d : Int))) 5
    rw [Below.cell hk (by show W0.heap.size < (W0.heap.push _).size; rw [Array.size_push]; omega)]
    exact h)
theorem keepsA {w W : World} (h : Keeps w W) (o : Obj) : Keeps w (W.alloc o) := Below.alloc h h.size o
theorem keepsD {w W : World} (h : Keeps w W) : Keeps w W.drew := Below.drew h
set_option maxRecDepth 100000 in
set_option maxHeartbeats 4000000 in
theorem dec_leaf (n : Nat) (m : Int) (hn : n < 10) (hm : m ≤ 1) (w : World) :
    Calls Tryd.prog 18 #[.int .i64 (n : Int), .int .i64 m] w fun e w' => e = .returned (.string ⟨#[dch n]⟩) ∧ Keeps w w' := by
  have hcv := conv1a n hn w
  go_enter Tryd.func18, Tryd.ntmps18
  go_wp2
  go_ret
  exact ⟨rfl, keepsA (Keeps.refl _) _⟩
set_option maxRecDepth 100000 in
set_option maxHeartbeats 4000000 in
theorem dec_step (n m q m' : Int) (r : Nat) (hn : ¬ (n < 10) ∨ (n < 10) ∧ ¬ (m ≤ 1)) (e1 : IntKind.i64.wrap (n.tdiv 10) = q) (e2 : IntKind.i64.wrap (m - 1) = m') (e3 : n.tmod 10 = (r : Int)) (hr : r < 10) (e4 : IntKind.i64.wrap (48 + (r : Int)) = 48 + (r : Int)) (e5 : IntKind.u8.wrap (48 + (r : Int)) = 48 + (r : Int)) (hn0 : 0 ≤ n) (Q : ByteArray) (hQ : Q.size ≤ 100) (w : World)
    (hrec : ∀ W, Calls Tryd.prog 18 #[.int .i64 q, .int .i64 m'] W fun e w' => e = .returned (.string Q) ∧ Keeps W w') :
    Calls Tryd.prog 18 #[.int .i64 n, .int .i64 m] w fun e w' => e = .returned (.string (Q ++ ⟨#[dch r]⟩)) ∧ Keeps w w' := by
  have HREC := Lib.hid hrec
  clear hrec
  have hcv := conv1a r hr
  have hcd := conv1d r hr w
  have hqs : ¬ 9223372036854775807 < Q.size + 1 := by omega
  rcases hn with hn | ⟨hn, hm⟩ <;> (
    go_enter Tryd.func18, Tryd.ntmps18
    go_upto_region 3 with (fail)
    refine wp_region_held_drew (S := (fun _ => True)) (by kernel_rfl) ?_ (fun hHeld => ?_)
    focus trivial
    refine wpAnyH_take (i := 0) (oi := ?_) (v := ?_) ?_ ?_ ?_ ?_ ?_ (Or.inl ⟨?_, ?_⟩) ?_ ?_
    rotate_left 2
    focus (simp only [List.getElem?_toArray, List.getElem?_cons_succ, List.getElem?_cons_zero]; exact rfl)
    focus kernel_rfl
    focus kernel_rfl
    focus kernel_rfl
    focus (exact fun _ _ _ h => h)
    focus rfl
    focus ((intro w hSw; (try dsimp only at hSw); go_simp) <;> with_reducible rfl)
    focus assumption
    try simp only [Act.put, List.setIfInBounds_toArray, List.set_cons_zero, List.set_cons_succ]
    refine wpAnyH_take (i := 1) (oi := ?_) (v := ?_) ?_ ?_ ?_ ?_ ?_ (Or.inl ⟨?_, ?_⟩) ?_ ?_
    rotate_left 2
    focus (simp only [List.getElem?_toArray, List.getElem?_cons_succ, List.getElem?_cons_zero]; exact rfl)
    focus kernel_rfl
    focus kernel_rfl
    focus kernel_rfl
    focus (exact fun _ _ _ h => h)
    focus rfl
    focus ((intro w hSw; (try dsimp only at hSw); go_simp) <;> with_reducible rfl)
    focus assumption
    try simp only [Act.put, List.setIfInBounds_toArray, List.set_cons_zero, List.set_cons_succ]
    refine wpAnyH_take (i := 2) (oi := ?_) (v := ?_) ?_ ?_ ?_ ?_ ?_ (Or.inl ⟨?_, ?_⟩) ?_ ?_
    rotate_left 2
    focus (simp only [List.getElem?_toArray, List.getElem?_cons_succ, List.getElem?_cons_zero]; exact rfl)
    focus kernel_rfl
    focus kernel_rfl
    focus kernel_rfl
    focus (exact fun _ _ _ h => h)
    focus rfl
    focus ((intro w hSw; (try dsimp only at hSw); go_simp) <;> with_reducible rfl)
    focus assumption
    try simp only [Act.put, List.setIfInBounds_toArray, List.set_cons_zero, List.set_cons_succ]
    refine wpAnyH_take (i := 3) (oi := ?_) (v := ?_) ?_ ?_ ?_ ?_ ?_ (Or.inl ⟨?_, ?_⟩) ?_ ?_
    rotate_left 2
    focus (simp only [List.getElem?_toArray, List.getElem?_cons_succ, List.getElem?_cons_zero]; exact rfl)
    focus kernel_rfl
    focus kernel_rfl
    focus kernel_rfl
    focus (exact fun _ _ _ h => h)
    focus rfl
    focus ((intro w hSw; (try dsimp only at hSw); go_simp) <;> with_reducible rfl)
    focus assumption
    try simp only [Act.put, List.setIfInBounds_toArray, List.set_cons_zero, List.set_cons_succ]
    refine wpAnyH_take (i := 5) (oi := ?_) (v := ?_) ?_ ?_ ?_ ?_ ?_ (Or.inl ⟨?_, ?_⟩) ?_ ?_
    rotate_left 2
    focus (simp only [List.getElem?_toArray, List.getElem?_cons_succ, List.getElem?_cons_zero]; exact rfl)
    focus kernel_rfl
    focus kernel_rfl
    focus kernel_rfl
    focus (exact fun _ _ _ h => h)
    focus rfl
    focus ((intro w hSw; (try dsimp only at hSw); go_simp) <;> with_reducible rfl)
    focus assumption
    try simp only [Act.put, List.setIfInBounds_toArray, List.set_cons_zero, List.set_cons_succ]
    refine wpAnyH_take (i := 6) (oi := ?_) (v := ?_) ?_ ?_ ?_ ?_ ?_ (Or.inl ⟨?_, ?_⟩) ?_ ?_
    rotate_left 2
    focus (simp only [List.getElem?_toArray, List.getElem?_cons_succ, List.getElem?_cons_zero]; exact rfl)
    focus kernel_rfl
    focus kernel_rfl
    focus kernel_rfl
    focus (exact fun _ _ _ h => h)
    focus rfl
    focus ((intro w hSw; (try dsimp only at hSw); go_simp) <;> with_reducible rfl)
    focus assumption
    try simp only [Act.put, List.setIfInBounds_toArray, List.set_cons_zero, List.set_cons_succ]
    refine wpAnyH_take (i := 7) (oi := ?_) (v := ?_) ?_ ?_ ?_ ?_ ?_ (Or.inl ⟨?_, ?_⟩) ?_ ?_
    rotate_left 2
    focus (simp only [List.getElem?_toArray, List.getElem?_cons_succ, List.getElem?_cons_zero]; exact rfl)
    focus kernel_rfl
    focus kernel_rfl
    focus kernel_rfl
    focus (exact fun _ _ _ h => h)
    focus rfl
    focus ((intro w hSw; (try dsimp only at hSw); go_simp) <;> with_reducible rfl)
    focus assumption
    try simp only [Act.put, List.setIfInBounds_toArray, List.set_cons_zero, List.set_cons_succ]
    refine wpAnyH_take (i := 8) (oi := ?_) (v := ?_) ?_ ?_ ?_ ?_ ?_ (Or.inl ⟨?_, ?_⟩) ?_ ?_
    rotate_left 2
    focus (simp only [List.getElem?_toArray, List.getElem?_cons_succ, List.getElem?_cons_zero]; exact rfl)
    focus kernel_rfl
    focus kernel_rfl
    focus kernel_rfl
    focus (exact fun _ _ _ h => h)
    focus rfl
    focus ((intro w hSw; (try dsimp only at hSw); go_simp) <;> with_reducible rfl)
    focus assumption
    try simp only [Act.put, List.setIfInBounds_toArray, List.set_cons_zero, List.set_cons_succ]
    refine wpAnyH_ready (rs := [4, 9]) (by kernel_rfl) (by simp) ?_
    refine AllReadyH.cons (o := ?_) ?_ (fun K hK => ?_) ?_
    rotate_left 1
    focus (simp only [List.getElem?_toArray, List.getElem?_cons_succ, List.getElem?_cons_zero]; exact rfl)
    rw [if_pos (by rfl)]
    go_simp
    go_at_call 18; refine (HREC.out _).mono ?_; rintro e W2 ⟨rfl, hk2⟩; have HK2 := Lib.hid hk2; (first | (have hcv2 : (convert 51 9 (.slice (some ⟨w.heap.size, 0, none⟩) 1 1)).run Tryd.prog W2 = .ok (.string ⟨#[dch r]⟩) W2 := conv1k hk2 hr) | skip); clear hk2
    refine hK.out _ _ ?_ ?_
    focus ((try dsimp only); (try exact trivial))
    clear hK K hHeld
    intro hHeld
    try simp only [Act.put, List.setIfInBounds_toArray, List.set_cons_zero, List.set_cons_succ]
    refine wpAnyH_ready (rs := [9]) (by kernel_rfl) (by simp) ?_
    refine AllReadyH.cons (o := ?_) ?_ (fun K hK => ?_) ?_
    rotate_left 1
    focus (simp only [List.getElem?_toArray, List.getElem?_cons_succ, List.getElem?_cons_zero]; exact rfl)
    rw [if_pos (by rfl)]
    go_simp
    refine hK.out _ _ ?_ ?_
    focus ((try dsimp only); (try exact trivial))
    clear hK K hHeld
    intro hHeld
    try simp only [Act.put, List.setIfInBounds_toArray, List.set_cons_zero, List.set_cons_succ]
    refine wpAnyH_ready (rs := [10]) (by kernel_rfl) (by simp) ?_
    refine AllReadyH.cons (o := ?_) ?_ (fun K hK => ?_) ?_
    rotate_left 1
    focus (simp only [List.getElem?_toArray, List.getElem?_cons_succ, List.getElem?_cons_zero]; exact rfl)
    rw [if_pos (by rfl)]
    go_simp
    refine hK.out _ _ ?_ ?_
    focus ((try dsimp only); (try exact trivial))
    clear hK K hHeld
    intro hHeld
    try simp only [Act.put, List.setIfInBounds_toArray, List.set_cons_zero, List.set_cons_succ]
    refine wpAnyH_take (i := 11) (oi := ?_) (v := ?_) ?_ ?_ ?_ ?_ ?_ (Or.inl ⟨?_, ?_⟩) ?_ ?_
    rotate_left 2
    focus (simp only [List.getElem?_toArray, List.getElem?_cons_succ, List.getElem?_cons_zero]; exact rfl)
    focus kernel_rfl
    focus kernel_rfl
    focus kernel_rfl
    focus (exact fun _ _ _ h => h)
    focus rfl
    focus ((intro w hSw; (try dsimp only at hSw); go_simp) <;> with_reducible rfl)
    focus assumption
    try simp only [Act.put, List.setIfInBounds_toArray, List.set_cons_zero, List.set_cons_succ]
    refine wpAnyH_take (i := 12) (oi := ?_) (v := ?_) ?_ ?_ ?_ ?_ ?_ (Or.inl ⟨?_, ?_⟩) ?_ ?_
    rotate_left 2
    focus (simp only [List.getElem?_toArray, List.getElem?_cons_succ, List.getElem?_cons_zero]; exact rfl)
    focus kernel_rfl
    focus kernel_rfl
    focus kernel_rfl
    focus (exact fun _ _ _ h => h)
    focus rfl
    focus ((intro w hSw; (try dsimp only at hSw); go_simp) <;> with_reducible rfl)
    focus assumption
    try simp only [Act.put, List.setIfInBounds_toArray, List.set_cons_zero, List.set_cons_succ]
    refine wpAnyH_done (by kernel_rfl) ?_ _
    rotate_left
    exact AllReadyH.nil
    exact AllReadyH.nil
    refine AllReadyH.cons (o := ?_) ?_ (fun K hK => ?_) ?_
    rotate_left 1
    focus (simp only [List.getElem?_toArray, List.getElem?_cons_succ, List.getElem?_cons_zero]; exact rfl)
    rw [if_pos (by rfl)]
    go_simp
    refine hK.out _ _ ?_ ?_
    focus ((try dsimp only); (try exact trivial))
    clear hK K hHeld
    intro hHeld
    try simp only [Act.put, List.setIfInBounds_toArray, List.set_cons_zero, List.set_cons_succ]
    refine wpAnyH_ready (rs := [4, 10]) (by kernel_rfl) (by simp) ?_
    refine AllReadyH.cons (o := ?_) ?_ (fun K hK => ?_) ?_
    rotate_left 1
    focus (simp only [List.getElem?_toArray, List.getElem?_cons_succ, List.getElem?_cons_zero]; exact rfl)
    rw [if_pos (by rfl)]
    go_simp
    go_at_call 18; refine (HREC.out _).mono ?_; rintro e W2 ⟨rfl, hk2⟩; have HK2 := Lib.hid hk2; (first | (have hcv2 : (convert 51 9 (.slice (some ⟨w.heap.size, 0, none⟩) 1 1)).run Tryd.prog W2 = .ok (.string ⟨#[dch r]⟩) W2 := conv1k hk2 hr) | skip); clear hk2
    refine hK.out _ _ ?_ ?_
    focus ((try dsimp only); (try exact trivial))
    clear hK K hHeld
    intro hHeld
    try simp only [Act.put, List.setIfInBounds_toArray, List.set_cons_zero, List.set_cons_succ]
    refine wpAnyH_ready (rs := [10]) (by kernel_rfl) (by simp) ?_
    refine AllReadyH.cons (o := ?_) ?_ (fun K hK => ?_) ?_
    rotate_left 1
    focus (simp only [List.getElem?_toArray, List.getElem?_cons_succ, List.getElem?_cons_zero]; exact rfl)
    rw [if_pos (by rfl)]
    go_simp
    refine hK.out _ _ ?_ ?_
    focus ((try dsimp only); (try exact trivial))
    clear hK K hHeld
    intro hHeld
    try simp only [Act.put, List.setIfInBounds_toArray, List.set_cons_zero, List.set_cons_succ]
    refine wpAnyH_take (i := 11) (oi := ?_) (v := ?_) ?_ ?_ ?_ ?_ ?_ (Or.inl ⟨?_, ?_⟩) ?_ ?_
    rotate_left 2
    focus (simp only [List.getElem?_toArray, List.getElem?_cons_succ, List.getElem?_cons_zero]; exact rfl)
    focus kernel_rfl
    focus kernel_rfl
    focus kernel_rfl
    focus (exact fun _ _ _ h => h)
    focus rfl
    focus ((intro w hSw; (try dsimp only at hSw); go_simp) <;> with_reducible rfl)
    focus assumption
    try simp only [Act.put, List.setIfInBounds_toArray, List.set_cons_zero, List.set_cons_succ]
    refine wpAnyH_take (i := 12) (oi := ?_) (v := ?_) ?_ ?_ ?_ ?_ ?_ (Or.inl ⟨?_, ?_⟩) ?_ ?_
    rotate_left 2
    focus (simp only [List.getElem?_toArray, List.getElem?_cons_succ, List.getElem?_cons_zero]; exact rfl)
    focus kernel_rfl
    focus kernel_rfl
    focus kernel_rfl
    focus (exact fun _ _ _ h => h)
    focus rfl
    focus ((intro w hSw; (try dsimp only at hSw); go_simp) <;> with_reducible rfl)
    focus assumption
    try simp only [Act.put, List.setIfInBounds_toArray, List.set_cons_zero, List.set_cons_succ]
    refine wpAnyH_done (by kernel_rfl) ?_ _
    rotate_left
    exact AllReadyH.nil
    refine AllReadyH.cons (o := ?_) ?_ (fun K hK => ?_) ?_
    rotate_left 1
    focus (simp only [List.getElem?_toArray, List.getElem?_cons_succ, List.getElem?_cons_zero]; exact rfl)
    rw [if_pos (by rfl)]
    go_simp
    refine hK.out _ _ ?_ ?_
    focus ((try dsimp only); (try exact trivial))
    clear hK K hHeld
    intro hHeld
    try simp only [Act.put, List.setIfInBounds_toArray, List.set_cons_zero, List.set_cons_succ]
    refine wpAnyH_ready (rs := [4]) (by kernel_rfl) (by simp) ?_
    refine AllReadyH.cons (o := ?_) ?_ (fun K hK => ?_) ?_
    rotate_left 1
    focus (simp only [List.getElem?_toArray, List.getElem?_cons_succ, List.getElem?_cons_zero]; exact rfl)
    rw [if_pos (by rfl)]
    go_simp
    go_at_call 18; refine (HREC.out _).mono ?_; rintro e W2 ⟨rfl, hk2⟩; have HK2 := Lib.hid hk2; (first | (have hcv2 : (convert 51 9 (.slice (some ⟨w.heap.size, 0, none⟩) 1 1)).run Tryd.prog W2 = .ok (.string ⟨#[dch r]⟩) W2 := conv1k hk2 hr) | skip); clear hk2
    refine hK.out _ _ ?_ ?_
    focus ((try dsimp only); (try exact trivial))
    clear hK K hHeld
    intro hHeld
    try simp only [Act.put, List.setIfInBounds_toArray, List.set_cons_zero, List.set_cons_succ]
    refine wpAnyH_take (i := 11) (oi := ?_) (v := ?_) ?_ ?_ ?_ ?_ ?_ (Or.inl ⟨?_, ?_⟩) ?_ ?_
    rotate_left 2
    focus (simp only [List.getElem?_toArray, List.getElem?_cons_succ, List.getElem?_cons_zero]; exact rfl)
    focus kernel_rfl
    focus kernel_rfl
    focus kernel_rfl
    focus (exact fun _ _ _ h => h)
    focus rfl
    focus ((intro w hSw; (try dsimp only at hSw); go_simp) <;> with_reducible rfl)
    focus assumption
    try simp only [Act.put, List.setIfInBounds_toArray, List.set_cons_zero, List.set_cons_succ]
    refine wpAnyH_take (i := 12) (oi := ?_) (v := ?_) ?_ ?_ ?_ ?_ ?_ (Or.inl ⟨?_, ?_⟩) ?_ ?_
    rotate_left 2
    focus (simp only [List.getElem?_toArray, List.getElem?_cons_succ, List.getElem?_cons_zero]; exact rfl)
    focus kernel_rfl
    focus kernel_rfl
    focus kernel_rfl
    focus (exact fun _ _ _ h => h)
    focus rfl
    focus ((intro w hSw; (try dsimp only at hSw); go_simp) <;> with_reducible rfl)
    focus assumption
    try simp only [Act.put, List.setIfInBounds_toArray, List.set_cons_zero, List.set_cons_succ]
    refine wpAnyH_done (by kernel_rfl) ?_ _
    rotate_left
    exact AllReadyH.nil
    exact AllReadyH.nil
    exact AllReadyH.nil
    all_goals go_wp2
    all_goals go_ret
    all_goals first | exact ⟨rfl, keepsA ((keepsD (Keeps.refl _)).trans HK2.out) _⟩ | exact ⟨rfl, (keepsD (keepsA (Keeps.refl _) _)).trans HK2.out⟩)
theorem dec_next (n : Nat) (m q' : Int) (hn : ¬ ((n : Int) < 10) ∨ ((n : Int) < 10) ∧ ¬ (m ≤ 1)) (hn1 : n ≤ 9223372036854775807) (hm0 : -9223372036854775808 < m) (hm1 : m ≤ 1000) (L : List UInt8) (hL : L.length ≤ 100) (hq : q' = m - 1) (w : World)
    (hrec : ∀ W, Calls Tryd.prog 18 #[.int .i64 ((n / 10 : Nat) : Int), .int .i64 q'] W fun e w' => e = .returned (.string ⟨L.toArray⟩) ∧ Keeps W w') :
    Calls Tryd.prog 18 #[.int .i64 (n : Int), .int .i64 m] w fun e w' => e = .returned (.string ⟨(L ++ [dch (n % 10)]).toArray⟩) ∧ Keeps w w' := by
  refine (dec_step (n : Int) m ((n / 10 : Nat) : Int) q' (n % 10) hn (by rw [Int.tdiv_eq_ediv_of_nonneg (by omega), IntKind.wrap_i64]; omega) (by rw [IntKind.wrap_i64, hq]; omega) (by rw [Int.tmod_eq_emod_of_nonneg (by omega)]; omega) (by omega) (by rw [IntKind.wrap_i64]; omega) (by rw [IntKind.wrap_u8]; omega) (by omega) ⟨L.toArray⟩ (by rw [ba_size]; exact hL) w hrec).mono ?_
  rintro e w' ⟨rfl, hk⟩
  exact ⟨by rw [show (⟨#[dch (n % 10)]⟩ : ByteArray) = ⟨([dch (n % 10)] : List UInt8).toArray⟩ from rfl, ba_append], hk⟩
theorem decimal_low (n : Nat) : ∀ (m : Int) (w : World), n < 1000000000000000000 → m ≤ 1 → -1000 + (Lib.decDigits n).length ≤ m →
    Calls Tryd.prog 18 #[.int .i64 (n : Int), .int .i64 m] w fun e w' => e = .returned (.string ⟨(Lib.decDigits n).toArray⟩) ∧ Keeps w w' := by
  refine dec_ind (p := fun n => ∀ (m : Int) (w : World), n < 1000000000000000000 → m ≤ 1 → -1000 + (Lib.decDigits n).length ≤ m →
    Calls Tryd.prog 18 #[.int .i64 (n : Int), .int .i64 m] w fun e w' => e = .returned (.string ⟨(Lib.decDigits n).toArray⟩) ∧ Keeps w w') (fun u h m w _ hm _ => ?_) (fun u h ih m w hu hm hl => ?_) n
  · rw [dec_small h]
    exact dec_leaf u m h hm w
  · have hlen := dec_length 17 u (by omega)
    rw [dec_big h] at hl hlen ⊢
    rw [List.length_append] at hl hlen
    simp only [List.length_cons, List.length_nil] at hl hlen
    exact dec_next u m (m - 1) (.inl (by omega)) (by omega) (by omega) (by omega) _ (by omega) rfl w (fun W => ih (m - 1) W (by omega) (by omega) (by omega))
theorem decimal_pad (k : Nat) : ∀ (n : Nat) (w : World), k ≤ 8 → n < 10 ^ (k + 1) →
    Calls Tryd.prog 18 #[.int .i64 (n : Int), .int .i64 ((k : Int) + 1)] w fun e w' => e = .returned (.string ⟨(padR n (k + 1)).toArray⟩) ∧ Keeps w w' := by
  induction k with
  | zero =>
    intro n w _ h
    have hn : n < 10 := by simpa using h
    have := dec_leaf n (((0 : Nat) : Int) + 1) hn (by omega) w
    rw [padR_succ, padR, Nat.mod_eq_of_lt hn]
    exact this
  | succ k ih =>
    intro n w hk h
    rw [padR_succ]
    have hl := padR_length (k + 1) (n / 10)
    have hn10 : n / 10 < 10 ^ (k + 1) := by rw [Nat.pow_succ] at h; omega
    have hp : 10 ^ (k + 1 + 1) ≤ 10 ^ 10 := Nat.pow_le_pow_right (by omega) (by omega)
    refine dec_next n (((k + 1 : Nat) : Int) + 1) ((k : Int) + 1) ?_ (by omega) (by omega) (by omega) _ (by omega) (by omega) w (fun W => ih (n / 10) W (by omega) hn10)
    by_cases h10 : (n : Int) < 10
    · exact .inr ⟨h10, by omega⟩
    · exact .inl h10
theorem decimal_ok (u : Nat) (hu : u ≤ 2100000000000000) : (∀ w, Calls Tryd.prog 18 #[.int .i64 ((u / 100000000 : Nat) : Int), .int .i64 1] w fun e w' => e = .returned (.string ⟨(Lib.decDigits (u / 100000000)).toArray⟩) ∧ Keeps w w') ∧
    (∀ w, Calls Tryd.prog 18 #[.int .i64 ((u % 100000000 : Nat) : Int), .int .i64 8] w fun e w' => e = .returned (.string ⟨(padR (u % 100000000) 8).toArray⟩) ∧ Keeps w w') := by
  have hl := dec_length 7 (u / 100000000) (by omega)
  refine ⟨fun w => decimal_low _ 1 w (by omega) (by omega) (by omega), fun w => ?_⟩
  exact decimal_pad 7 (u % 100000000) w (by omega) (by omega)
set_option maxRecDepth 100000 in
set_option maxHeartbeats 4000000 in
theorem rformat_walk (v q r : Int) (hv : validB v = true) (h0 : 0 ≤ v) (h1 : v ≤ 2100000000000000) (S Q : ByteArray) (hS : S.size ≤ 20) (hQ : Q.size ≤ 20) (hq : v / 100000000 = q) (hr : v % 100000000 = r) (w : World)
    (hF1 : ∀ W, Calls Tryd.prog 18 #[.int .i64 q, .int .i64 1] W fun e w' => e = .returned (.string Q) ∧ Keeps W w')
    (hF2 : ∀ W, Calls Tryd.prog 18 #[.int .i64 r, .int .i64 8] W fun e w' => e = .returned (.string S) ∧ Keeps W w') :
    Calls Tryd.prog 7 #[.int .i64 v] w fun e w' => e = .returned (.string (Q ++ ⟨#[46]⟩ ++ S)) ∧ Keeps w w' := by
  have HF1 := Lib.hid hF1; have HF2 := Lib.hid hF2
  clear hF1 hF2
  go_enter Tryd.func7, Tryd.ntmps7
  go_wp2_with (first | (go_at_call 8; refine (rvalid_any _ _).mono ?_; rintro e w' ⟨rfl, rfl⟩) | (go_at_call 18; first | (with_reducible refine (HF1.out _).mono ?_; rintro e w1 ⟨rfl, hk⟩; have HK1 := Lib.hid hk; clear hk) | (refine (HF2.out _).mono ?_; rintro e w2 ⟨rfl, hk⟩; have HK2 := Lib.hid hk; clear hk)))
  go_ret
  exact ⟨rfl, HK1.out.trans HK2.out⟩
theorem rformat_any (v : Int) (w : World) :
    Calls Tryd.prog 7 #[.int .i64 v] w fun e w' => e = .returned (.string ⟨(fmtL v).toArray⟩) ∧ Keeps w w' := by
  by_cases hv : validB v = true
  · obtain ⟨h0, h1⟩ := validB_of hv
    obtain ⟨u, rfl⟩ := Int.eq_ofNat_of_zero_le h0
    obtain ⟨d1, d2⟩ := decimal_ok u (by omega)
    have hl2 := dec_length 7 (u / 100000000) (by omega)
    have hpl := padR_length 8 (u % 100000000)
    refine (rformat_walk (u : Int) ((u / 100000000 : Nat) : Int) ((u % 100000000 : Nat) : Int) hv h0 h1 ⟨(padR (u % 100000000) 8).toArray⟩ ⟨(Lib.decDigits (u / 100000000)).toArray⟩ (by rw [ba_size]; omega) (by rw [ba_size]; omega) (by omega) (by omega) w d1 d2).mono ?_
    rintro e w' ⟨rfl, hk⟩
    refine ⟨?_, hk⟩
    rw [show (⟨#[46]⟩ : ByteArray) = ⟨([46] : List UInt8).toArray⟩ from rfl, ba_append, ba_append]
    unfold fmtL fmtN
    rw [if_pos hv, Int.toNat_natCast]
    simp
  · have hv : validB v = false := by simpa using hv
    have HL := Lib.hid (show fmtL v = [45] by unfold fmtL; rw [hv]; rfl)
    go_enter Tryd.func7, Tryd.ntmps7
    go_wp2_with (go_at_call 8; refine (rvalid_any _ _).mono ?_; rintro e w' ⟨rfl, rfl⟩)
    go_ret
    exact ⟨by rw [HL.out]; rfl, Keeps.refl _⟩
end Go.Proofs.YtigbngdeffbhnaaDoor
