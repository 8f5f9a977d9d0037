/- wire's Reader: size. | wire.try: its deferred closures (recover in a frame that panics, and in one that returns). Written by gtry.py. -/
import Derived.Test.YtcodpdpeklammaaDoorGB5
import Derived.Test.YtcodpdpeklammaaDoorGA4
import Derived.Defers
import Derived.Recover
import Derived.Laws.Pointers
namespace Go.Proofs.YtcodpdpeklammaaDoor
set_option linter.unusedVariables false
set_option linter.unusedSimpArgs false
open Go Go.RowKit
variable {B : Nat}

/-- what a reading function does, by its law in plain Lean: the reader's block alone is changed -/
def ReadP (B : Nat) {α : Type} (p : Rdr α) (enc : World → α → Value → Prop) (g : Nat) (e : Int) (l : List Int) (w : World) (r : Ending) (w' : World) : Prop :=
  ∃ v' l', RdAt B w' g v' e l' ∧ Chg (· = g) w w' ∧ ((∃ x val, p l = .ok (x, l') ∧ r = .returned val ∧ enc w' x val) ∨ (∃ c, p l = .error c ∧ r = .panicked (stopC c)))
def encU (k : IntKind) (_ : World) (x : Int) (v : Value) : Prop := v = .int k x
theorem num_no {n : Nat} {l : List Int} (h : l.length < n) : rdNum n l = .error 4 := by unfold rdNum rdBind rdTake; rw [if_pos h]
theorem num_ok {n : Nat} {l : List Int} (h : n ≤ l.length) : rdNum n l = .ok (leV (l.take n), l.drop n) := by unfold rdNum rdBind rdTake; rw [if_neg (by omega)]; rfl
theorem wide_len (x : Int) : ((sizeB x).length : Int) = wideZ x + 1 := by
  unfold sizeB wideZ
  split
  · simp
  · split
    · simp [leB_length]
    · split <;> simp [leB_length]
theorem length_any (x : Int) (h0 : 0 ≤ x) (h1 : x < 18446744073709551616) (w : World) : Calls Tryd.prog 63 #[.int .u64 x] w fun e w' => e = .returned (.int .i64 ((sizeB x).length : Int)) ∧ w' = w := by
  have HW := Lib.hid (wide_any x h0 h1)
  have hwl := wide_len x
  have hb := sizeB_len x
  rw [hwl]
  have hr : -1 ≤ wideZ x ∧ wideZ x ≤ 8 := by omega
  clear hwl hb
  generalize wideZ x = Z at *
  go_enter Tryd.func63, Tryd.ntmps63
  go_wp2_with (go_at_call 84; refine (HW.out _).mono ?_; rintro e w1 ⟨rfl, rfl⟩)
  go_ret
  exact ⟨rfl, rfl⟩
theorem readp_ret {α : Type} {p : Rdr α} {enc : World → α → Value → Prop} {g : Nat} {e : Int} {l l' : List Int} {w w' : World} {v' val : Value} {x : α} (h : RdAt B w' g v' e l') (hc : Chg (· = g) w w') (hp : p l = .ok (x, l')) (he : enc w' x val) : ReadP B p enc g e l w (.returned val) w' := ⟨v', l', h, hc, .inl ⟨x, val, hp, rfl, he⟩⟩
theorem readp_stop {α : Type} {p : Rdr α} {enc : World → α → Value → Prop} {g : Nat} {e c : Int} {l l' : List Int} {w w' : World} {v' : Value} (h : RdAt B w' g v' e l') (hc : Chg (· = g) w w') (hp : p l = .error c) : ReadP B p enc g e l w (.panicked (stopC c)) w' := ⟨v', l', h, hc, .inr ⟨c, hp, rfl⟩⟩
set_option maxRecDepth 100000 in
set_option maxHeartbeats 1000000 in
theorem size_read (g : Nat) (v : Value) (e : Int) (l : List Int) (w : World) (h : RdAt B w g v e l) :
    Calls Tryd.prog 39 #[.pointer (some ⟨g, 0, none⟩)] w (ReadP B rdSize (encU .u64) g e l w) := by
  have HH := Lib.hid h
  by_cases hl0 : l.length < 1
  · have HN := Lib.hid (number_no g v e l 1 (by omega) hl0 w h)
    have hsz : rdSize l = .error 4 := by unfold rdSize; exact rdBind_err (num_no hl0)
    clear h
    go_enter Tryd.func39, Tryd.ntmps39
    go_wp2_with (go_at_call 60; refine HN.out.mono ?_; rintro r W1 ⟨rfl, rfl⟩)
    exact ⟨rfl, readp_stop HH.out (Chg.refl _ _) hsz⟩
  · have HN := Lib.hid (number_ok g v e l 1 (by omega) (by omega) w h)
    obtain ⟨f, r1, rfl⟩ : ∃ f r1, l = f :: r1 := by cases l with | nil => simp at hl0 | cons f r1 => exact ⟨f, r1, rfl⟩
    have hf := h.bytes f (by simp)
    obtain ⟨hf0, hf1⟩ := hf
    have e1 : leV ((f :: r1).take 1) = f := by simp [leV]
    have e2 : (f :: r1).drop 1 = r1 := rfl
    have hone : rdNum 1 (f :: r1) = .ok (f, r1) := by rw [num_ok (by simp), e1, e2]
    rw [e1, e2] at HN
    by_cases hf2 : f < 253
    · have hsz : rdSize (f :: r1) = .ok (f, r1) := by unfold rdSize; rw [rdBind_ok hone, if_pos hf2]; rfl
      clear h
      go_enter Tryd.func39, Tryd.ntmps39
      go_wp2_with (go_at_call 60; refine HN.out.mono ?_; rintro r W1 ⟨v1, rfl, hr1, hc1⟩; have HR1 := Lib.hid hr1; have HC1 := Lib.hid hc1; clear hr1 hc1)
      go_ret
      exact readp_ret HR1.out HC1.out hsz rfl
    · obtain ⟨k, hk, hkc⟩ : ∃ k : Nat, markLen f = k ∧ ((f = 253 ∧ k = 2) ∨ (f = 254 ∧ k = 4) ∨ (f = 255 ∧ k = 8)) := by
        refine ⟨_, rfl, ?_⟩
        have : f = 253 ∨ f = 254 ∨ f = 255 := by omega
        rcases this with rfl | rfl | rfl
        · exact .inl ⟨rfl, rfl⟩
        · exact .inr (.inl ⟨rfl, rfl⟩)
        · exact .inr (.inr ⟨rfl, rfl⟩)
      have hk8 : k ≤ 8 := by omega
      have hsz0 : rdSize (f :: r1) = rdBind (rdNum k) (fun x => if (sizeB x).length ≠ k + 1 then rdErr 3 else if 33554432 < x then rdErr 2 else rdOk x) r1 := by unfold rdSize; rw [rdBind_ok hone, if_neg hf2, hk]
      by_cases hl2 : r1.length < k
      · have HN2 := Lib.hid (fun W v1 (hr : RdAt B W g v1 e r1) => number_no g v1 e r1 k hk8 hl2 W hr)
        have hsz : rdSize (f :: r1) = .error 4 := by rw [hsz0]; exact rdBind_err (num_no hl2)
        clear h hsz0
        rcases hkc with ⟨rfl, rfl⟩ | ⟨rfl, rfl⟩ | ⟨rfl, rfl⟩
        all_goals
          go_enter Tryd.func39, Tryd.ntmps39
          go_wp2_with (go_at_call 60; first | (refine (HN2.out _ _ HR1.out).mono ?_; rintro r W2 ⟨rfl, rfl⟩) | (refine HN.out.mono ?_; rintro r W1 ⟨v1, rfl, hr1, hc1⟩; have HR1 := Lib.hid hr1; have HC1 := Lib.hid hc1; clear hr1 hc1))
          exact ⟨rfl, readp_stop HR1.out HC1.out hsz⟩
      · have HN2 := Lib.hid (fun W v1 (hr : RdAt B W g v1 e r1) => number_ok g v1 e r1 k hk8 (by omega) W hr)
        have hlk : (r1.take k).length = k := by simp; omega
        have hrg := leV_range (l := r1.take k) (fun y hy => h.bytes y (List.mem_cons_of_mem _ (List.mem_of_mem_take hy)))
        rw [hlk] at hrg
        rw [rdBind_ok (num_ok (by omega))] at hsz0
        obtain ⟨hx0, hx1⟩ := hrg
        have hx2 : leV (r1.take k) < 18446744073709551616 := by rcases hkc with ⟨_, rfl⟩ | ⟨_, rfl⟩ | ⟨_, rfl⟩ <;> omega
        generalize leV (r1.take k) = X at *
        have HLN := Lib.hid (length_any X hx0 hx2)
        clear h hlk hx1
        generalize hSL : (sizeB X).length = SL at *
        clear hSL
        by_cases hs1 : SL = k + 1
        · rw [if_neg (by omega)] at hsz0
          by_cases hs2 : 33554432 < X
          · have hsz : rdSize (f :: r1) = .error 2 := by rw [hsz0, if_pos hs2]; rfl
            clear hsz0
            rcases hkc with ⟨rfl, rfl⟩ | ⟨rfl, rfl⟩ | ⟨rfl, rfl⟩
            all_goals
              subst hs1
              go_enter Tryd.func39, Tryd.ntmps39
              go_wp2_with (first | (go_at_call 63; refine (HLN.out _).mono ?_; rintro r W5 ⟨rfl, rfl⟩) | (go_at_call 60; first | (refine (HN2.out _ _ HR1.out).mono ?_; rintro r W2 ⟨v2, rfl, hr2, hc2⟩; have HR2 := Lib.hid hr2; have HC2 := Lib.hid hc2; clear hr2 hc2) | (refine HN.out.mono ?_; rintro r W1 ⟨v1, rfl, hr1, hc1⟩; have HR1 := Lib.hid hr1; have HC1 := Lib.hid hc1; clear hr1 hc1)))
              exact ⟨rfl, readp_stop HR2.out (HC1.out.trans HC2.out) hsz⟩
          · have hsz : rdSize (f :: r1) = .ok (X, r1.drop k) := by rw [hsz0, if_neg hs2]; rfl
            clear hsz0
            rcases hkc with ⟨rfl, rfl⟩ | ⟨rfl, rfl⟩ | ⟨rfl, rfl⟩
            all_goals
              subst hs1
              go_enter Tryd.func39, Tryd.ntmps39
              go_wp2_with (first | (go_at_call 63; refine (HLN.out _).mono ?_; rintro r W5 ⟨rfl, rfl⟩) | (go_at_call 60; first | (refine (HN2.out _ _ HR1.out).mono ?_; rintro r W2 ⟨v2, rfl, hr2, hc2⟩; have HR2 := Lib.hid hr2; have HC2 := Lib.hid hc2; clear hr2 hc2) | (refine HN.out.mono ?_; rintro r W1 ⟨v1, rfl, hr1, hc1⟩; have HR1 := Lib.hid hr1; have HC1 := Lib.hid hc1; clear hr1 hc1)))
              go_ret
              exact readp_ret HR2.out (HC1.out.trans HC2.out) hsz rfl
        · have hsz : rdSize (f :: r1) = .error 3 := by rw [hsz0, if_pos hs1]; rfl
          clear hsz0
          rcases hkc with ⟨rfl, rfl⟩ | ⟨rfl, rfl⟩ | ⟨rfl, rfl⟩
          · have hne : ((SL : Int) == 3) = false := beq_eq_false_iff_ne.2 (by omega)
            have hne2 : ((SL : Int) != 3) = true := by simp only [bne, hne]; rfl
            go_enter Tryd.func39, Tryd.ntmps39
            go_wp2_with (first | (go_at_call 63; refine (HLN.out _).mono ?_; rintro r W5 ⟨rfl, rfl⟩) | (go_at_call 60; first | (refine (HN2.out _ _ HR1.out).mono ?_; rintro r W2 ⟨v2, rfl, hr2, hc2⟩; have HR2 := Lib.hid hr2; have HC2 := Lib.hid hc2; clear hr2 hc2) | (refine HN.out.mono ?_; rintro r W1 ⟨v1, rfl, hr1, hc1⟩; have HR1 := Lib.hid hr1; have HC1 := Lib.hid hc1; clear hr1 hc1)))
            exact ⟨rfl, readp_stop HR2.out (HC1.out.trans HC2.out) hsz⟩
          · have hne : ((SL : Int) == 5) = false := beq_eq_false_iff_ne.2 (by omega)
            have hne2 : ((SL : Int) != 5) = true := by simp only [bne, hne]; rfl
            go_enter Tryd.func39, Tryd.ntmps39
            go_wp2_with (first | (go_at_call 63; refine (HLN.out _).mono ?_; rintro r W5 ⟨rfl, rfl⟩) | (go_at_call 60; first | (refine (HN2.out _ _ HR1.out).mono ?_; rintro r W2 ⟨v2, rfl, hr2, hc2⟩; have HR2 := Lib.hid hr2; have HC2 := Lib.hid hc2; clear hr2 hc2) | (refine HN.out.mono ?_; rintro r W1 ⟨v1, rfl, hr1, hc1⟩; have HR1 := Lib.hid hr1; have HC1 := Lib.hid hc1; clear hr1 hc1)))
            exact ⟨rfl, readp_stop HR2.out (HC1.out.trans HC2.out) hsz⟩
          · have hne : ((SL : Int) == 9) = false := beq_eq_false_iff_ne.2 (by omega)
            have hne2 : ((SL : Int) != 9) = true := by simp only [bne, hne]; rfl
            go_enter Tryd.func39, Tryd.ntmps39
            go_wp2_with (first | (go_at_call 63; refine (HLN.out _).mono ?_; rintro r W5 ⟨rfl, rfl⟩) | (go_at_call 60; first | (refine (HN2.out _ _ HR1.out).mono ?_; rintro r W2 ⟨v2, rfl, hr2, hc2⟩; have HR2 := Lib.hid hr2; have HC2 := Lib.hid hc2; clear hr2 hc2) | (refine HN.out.mono ?_; rintro r W1 ⟨v1, rfl, hr1, hc1⟩; have HR1 := Lib.hid hr1; have HC1 := Lib.hid hc1; clear hr1 hc1)))
            exact ⟨rfl, readp_stop HR2.out (HC1.out.trans HC2.out) hsz⟩
end Go.Proofs.YtcodpdpeklammaaDoor
namespace Go.Proofs.YtcodpdpeklammaaDoor
set_option linter.unusedVariables false
set_option linter.unusedSimpArgs false
open Go Go.RowKit
theorem run_assert_ok {P : Program} (t xT : TypeId) (v : Value) {k : IntKind} (h : P.underlying t = some (.int k)) (w : World) : (Instr.typeAssert (.iface t v) xT t true).run P w = .ok (.tuple #[v, .bool true]) w := by
  simp [Instr.typeAssert, run_underlying h, go_sem, Result.andThen]
def recD (c : Int) : List PanicEntry := [{ v := stopV c, recovered := true }]
set_option maxRecDepth 100000 in
set_option maxHeartbeats 1000000 in
theorem catch64 (g p0 p1 p2 : Nat) (ad : Option Addr) (sl sc : Nat) (vb : Value) (eb c : Int) (ob : Int) (w : World) (h2 : w.cell? ⟨p2, 0, none⟩ = some (.slice ad sl sc)) (h0 : w.cell? ⟨p0, 0, none⟩ = some (.pointer (some ⟨g, 0, none⟩)))
    (hg : Row w g 0 [vb, .int .i64 eb]) (h1 : Row w p1 0 [.int .u64 ob]) (hn1 : p1 ≠ g) (hn0 : p0 ≠ g) (hn2 : p2 ≠ g) :
    CallsD Tryd.prog 62 #[.pointer (some ⟨p2, 0, none⟩), .pointer (some ⟨p0, 0, none⟩), .pointer (some ⟨p1, 0, none⟩)] (.panicking (stopC c)) w fun e u' w' =>
      e = .returned (.tuple #[]) ∧ u' = .panicking (recD c) ∧ w' = ((w.setCell ⟨g, 0, none⟩ (.slice ad sl sc)).setCell ⟨g, 1, none⟩ (.int .i64 c)).setCell ⟨p1, 0, none⟩ (.int .u64 0) := by
  have c0 := (hg 0 _ rfl).1
  have f0 := (hg 0 _ rfl).2
  have c1 := (hg 1 _ rfl).1
  have f1 := (hg 1 _ rfl).2
  have d1 := (h1 0 _ rfl).1
  have e1 := (h1 0 _ rfl).2
  simp only [Nat.zero_add] at c0 f0 c1 f1 d1 e1
  refine callsD_of_wpS Tryd.func62 rfl fun c₀ cs hu => ?_
  apply wpS_seq
  apply wpS_region
  simp [wpOpsS, go_sem, recoverD, hu, stopC, Tryd.ntmps62, Exit.thenS]
  refine wpS_of_wp ?_
  simp only [Act.put, List.setIfInBounds_toArray, List.set_cons_zero, List.set_cons_succ, Array.replicate_succ, Array.replicate_zero, List.push_toArray, List.append_toArray, List.nil_append, List.cons_append]
  simp only [stopV]
  go_wp2
  rw [run_assert_ok _ _ _ (k := .i64) (by kernel_rfl)]
  simp only [Result.andThen]
  rw [Oper.upon_value]
  go_wp2
  simp [bodyPostS, results, Tryd.results62, recD, stopV]
set_option maxRecDepth 100000 in
set_option maxHeartbeats 1000000 in
theorem idle64 (a b d : Value) (w : World) :
    CallsD Tryd.prog 62 #[a, b, d] .returning w fun e u' w' => e = .returned (.tuple #[]) ∧ u' = .returning ∧ w' = w := by
  refine callsD_of_wpS Tryd.func62 rfl fun c₀ cs hu => ?_
  apply wpS_seq
  apply wpS_region
  simp [wpOpsS, go_sem, recoverD, hu, Tryd.ntmps62, Exit.thenS]
  refine wpS_of_wp ?_
  simp only [Act.put, List.setIfInBounds_toArray, List.set_cons_zero, List.set_cons_succ, Array.replicate_succ, Array.replicate_zero, List.push_toArray, List.append_toArray, List.nil_append, List.cons_append]
  go_wp2
  cases c₀
  simp_all [bodyPostS, results, Tryd.results62]
set_option maxRecDepth 100000 in
set_option maxHeartbeats 1000000 in
theorem catch32 (g p0 p1 p2 : Nat) (ad : Option Addr) (sl sc : Nat) (vb : Value) (eb c : Int) (ob : Int) (w : World) (h2 : w.cell? ⟨p2, 0, none⟩ = some (.slice ad sl sc)) (h0 : w.cell? ⟨p0, 0, none⟩ = some (.pointer (some ⟨g, 0, none⟩)))
    (hg : Row w g 0 [vb, .int .i64 eb]) (h1 : Row w p1 0 [.int .u32 ob]) (hn1 : p1 ≠ g) (hn0 : p0 ≠ g) (hn2 : p2 ≠ g) :
    CallsD Tryd.prog 83 #[.pointer (some ⟨p2, 0, none⟩), .pointer (some ⟨p0, 0, none⟩), .pointer (some ⟨p1, 0, none⟩)] (.panicking (stopC c)) w fun e u' w' =>
      e = .returned (.tuple #[]) ∧ u' = .panicking (recD c) ∧ w' = ((w.setCell ⟨g, 0, none⟩ (.slice ad sl sc)).setCell ⟨g, 1, none⟩ (.int .i64 c)).setCell ⟨p1, 0, none⟩ (.int .u32 0) := by
  have c0 := (hg 0 _ rfl).1
  have f0 := (hg 0 _ rfl).2
  have c1 := (hg 1 _ rfl).1
  have f1 := (hg 1 _ rfl).2
  have d1 := (h1 0 _ rfl).1
  have e1 := (h1 0 _ rfl).2
  simp only [Nat.zero_add] at c0 f0 c1 f1 d1 e1
  refine callsD_of_wpS Tryd.func83 rfl fun c₀ cs hu => ?_
  apply wpS_seq
  apply wpS_region
  simp [wpOpsS, go_sem, recoverD, hu, stopC, Tryd.ntmps83, Exit.thenS]
  refine wpS_of_wp ?_
  simp only [Act.put, List.setIfInBounds_toArray, List.set_cons_zero, List.set_cons_succ, Array.replicate_succ, Array.replicate_zero, List.push_toArray, List.append_toArray, List.nil_append, List.cons_append]
  simp only [stopV]
  go_wp2
  rw [run_assert_ok _ _ _ (k := .i64) (by kernel_rfl)]
  simp only [Result.andThen]
  rw [Oper.upon_value]
  go_wp2
  simp [bodyPostS, results, Tryd.results83, recD, stopV]
set_option maxRecDepth 100000 in
set_option maxHeartbeats 1000000 in
theorem idle32 (a b d : Value) (w : World) :
    CallsD Tryd.prog 83 #[a, b, d] .returning w fun e u' w' => e = .returned (.tuple #[]) ∧ u' = .returning ∧ w' = w := by
  refine callsD_of_wpS Tryd.func83 rfl fun c₀ cs hu => ?_
  apply wpS_seq
  apply wpS_region
  simp [wpOpsS, go_sem, recoverD, hu, Tryd.ntmps83, Exit.thenS]
  refine wpS_of_wp ?_
  simp only [Act.put, List.setIfInBounds_toArray, List.set_cons_zero, List.set_cons_succ, Array.replicate_succ, Array.replicate_zero, List.push_toArray, List.append_toArray, List.nil_append, List.cons_append]
  go_wp2
  cases c₀
  simp_all [bodyPostS, results, Tryd.results83]
set_option maxRecDepth 100000 in
set_option maxHeartbeats 1000000 in
theorem catch8 (g p0 p1 p2 : Nat) (ad : Option Addr) (sl sc : Nat) (vb : Value) (eb c : Int) (ob : Int) (w : World) (h2 : w.cell? ⟨p2, 0, none⟩ = some (.slice ad sl sc)) (h0 : w.cell? ⟨p0, 0, none⟩ = some (.pointer (some ⟨g, 0, none⟩)))
    (hg : Row w g 0 [vb, .int .i64 eb]) (h1 : Row w p1 0 [.int .u8 ob]) (hn1 : p1 ≠ g) (hn0 : p0 ≠ g) (hn2 : p2 ≠ g) :
    CallsD Tryd.prog 91 #[.pointer (some ⟨p2, 0, none⟩), .pointer (some ⟨p0, 0, none⟩), .pointer (some ⟨p1, 0, none⟩)] (.panicking (stopC c)) w fun e u' w' =>
      e = .returned (.tuple #[]) ∧ u' = .panicking (recD c) ∧ w' = ((w.setCell ⟨g, 0, none⟩ (.slice ad sl sc)).setCell ⟨g, 1, none⟩ (.int .i64 c)).setCell ⟨p1, 0, none⟩ (.int .u8 0) := by
  have c0 := (hg 0 _ rfl).1
  have f0 := (hg 0 _ rfl).2
  have c1 := (hg 1 _ rfl).1
  have f1 := (hg 1 _ rfl).2
  have d1 := (h1 0 _ rfl).1
  have e1 := (h1 0 _ rfl).2
  simp only [Nat.zero_add] at c0 f0 c1 f1 d1 e1
  refine callsD_of_wpS Tryd.func91 rfl fun c₀ cs hu => ?_
  apply wpS_seq
  apply wpS_region
  simp [wpOpsS, go_sem, recoverD, hu, stopC, Tryd.ntmps91, Exit.thenS]
  refine wpS_of_wp ?_
  simp only [Act.put, List.setIfInBounds_toArray, List.set_cons_zero, List.set_cons_succ, Array.replicate_succ, Array.replicate_zero, List.push_toArray, List.append_toArray, List.nil_append, List.cons_append]
  simp only [stopV]
  go_wp2
  rw [run_assert_ok _ _ _ (k := .i64) (by kernel_rfl)]
  simp only [Result.andThen]
  rw [Oper.upon_value]
  go_wp2
  simp [bodyPostS, results, Tryd.results91, recD, stopV]
set_option maxRecDepth 100000 in
set_option maxHeartbeats 1000000 in
theorem idle8 (a b d : Value) (w : World) :
    CallsD Tryd.prog 91 #[a, b, d] .returning w fun e u' w' => e = .returned (.tuple #[]) ∧ u' = .returning ∧ w' = w := by
  refine callsD_of_wpS Tryd.func91 rfl fun c₀ cs hu => ?_
  apply wpS_seq
  apply wpS_region
  simp [wpOpsS, go_sem, recoverD, hu, Tryd.ntmps91, Exit.thenS]
  refine wpS_of_wp ?_
  simp only [Act.put, List.setIfInBounds_toArray, List.set_cons_zero, List.set_cons_succ, Array.replicate_succ, Array.replicate_zero, List.push_toArray, List.append_toArray, List.nil_append, List.cons_append]
  go_wp2
  cases c₀
  simp_all [bodyPostS, results, Tryd.results91]
set_option maxRecDepth 100000 in
set_option maxHeartbeats 1000000 in
theorem catchB (g p0 p1 p2 : Nat) (ad : Option Addr) (sl sc : Nat) (vb ob : Value) (eb c : Int) (w : World) (h2 : w.cell? ⟨p2, 0, none⟩ = some (.slice ad sl sc)) (h0 : w.cell? ⟨p0, 0, none⟩ = some (.pointer (some ⟨g, 0, none⟩)))
    (hg : Row w g 0 [vb, .int .i64 eb]) (h1 : Row w p1 0 [ob]) (hn1 : p1 ≠ g) (hn0 : p0 ≠ g) (hn2 : p2 ≠ g) :
    CallsD Tryd.prog 64 #[.pointer (some ⟨p2, 0, none⟩), .pointer (some ⟨p0, 0, none⟩), .pointer (some ⟨p1, 0, none⟩)] (.panicking (stopC c)) w fun e u' w' =>
      e = .returned (.tuple #[]) ∧ u' = .panicking (recD c) ∧ w' = ((w.setCell ⟨g, 0, none⟩ (.slice ad sl sc)).setCell ⟨g, 1, none⟩ (.int .i64 c)).setCell ⟨p1, 0, none⟩ (.slice none 0 0) := by
  have c0 := (hg 0 _ rfl).1
  have f0 := (hg 0 _ rfl).2
  have c1 := (hg 1 _ rfl).1
  have f1 := (hg 1 _ rfl).2
  have d1 := (h1 0 _ rfl).1
  have e1 := (h1 0 _ rfl).2
  simp only [Nat.zero_add] at c0 f0 c1 f1 d1 e1
  refine callsD_of_wpS Tryd.func64 rfl fun c₀ cs hu => ?_
  apply wpS_seq
  apply wpS_region
  simp [wpOpsS, go_sem, recoverD, hu, stopC, Tryd.ntmps64, Exit.thenS]
  refine wpS_of_wp ?_
  simp only [Act.put, List.setIfInBounds_toArray, List.set_cons_zero, List.set_cons_succ, Array.replicate_succ, Array.replicate_zero, List.push_toArray, List.append_toArray, List.nil_append, List.cons_append]
  simp only [stopV]
  go_wp2
  rw [run_assert_ok _ _ _ (k := .i64) (by kernel_rfl)]
  simp only [Result.andThen]
  rw [Oper.upon_value]
  go_wp2
  simp [bodyPostS, results, Tryd.results64, recD, stopV]
set_option maxRecDepth 100000 in
set_option maxHeartbeats 1000000 in
theorem idleB (a b d : Value) (w : World) :
    CallsD Tryd.prog 64 #[a, b, d] .returning w fun e u' w' => e = .returned (.tuple #[]) ∧ u' = .returning ∧ w' = w := by
  refine callsD_of_wpS Tryd.func64 rfl fun c₀ cs hu => ?_
  apply wpS_seq
  apply wpS_region
  simp [wpOpsS, go_sem, recoverD, hu, Tryd.ntmps64, Exit.thenS]
  refine wpS_of_wp ?_
  simp only [Act.put, List.setIfInBounds_toArray, List.set_cons_zero, List.set_cons_succ, Array.replicate_succ, Array.replicate_zero, List.push_toArray, List.append_toArray, List.nil_append, List.cons_append]
  go_wp2
  cases c₀
  simp_all [bodyPostS, results, Tryd.results64]
end Go.Proofs.YtcodpdpeklammaaDoor
