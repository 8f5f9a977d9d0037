/- list, at inputs, outputs and texts. -/
import Derived.Test.YtcodpdpeklammaaDoorGC1
namespace Go.Proofs.YtcodpdpeklammaaDoor
set_option linter.unusedVariables false
set_option linter.unusedSimpArgs false
open Go Go.RowKit
variable {B : Nat}
theorem input_run (args : Array Value) (W : World) : (callFunc 71 args).run Tryd.prog W = .ok (.enter 71 args) W := by simp [go_sem]
theorem output_run (args : Array Value) (W : World) : (callFunc 73 args).run Tryd.prog W = .ok (.enter 73 args) W := by simp [go_sem]
theorem text_run (args : Array Value) (W : World) : (callFunc 75 args).run Tryd.prog W = .ok (.enter 75 args) W := by simp [go_sem]
/-- a list of inputs that was read -/
def encIns (A : Nat) (W : World) (l : List InD) (v : Value) : Prop := ∃ S T cs ps, OwnI S T A W v l cs ps
def encOuts (A : Nat) (W : World) (l : List OutD) (v : Value) : Prop := ∃ S cs ps, OwnO S A W v l cs ps
def encTexts (A : Nat) (W : World) (l : List (List Int)) (v : Value) : Prop := ∃ vs, OwnLL A W v l vs
/-- where a loop stands -/
def ListSt (B : Nat) {α : Type} (p : Rdr α) (enc : Nat → World → List α → Value → Prop) (g : Nat) (l : List Int) (w W : World) (i : Nat) (v : Value) : Prop :=
  ∃ xs v' l', Chg (· = g) w W ∧ rdMany p i l = .ok (xs, l') ∧ RdAt B W g v' 0 l' ∧ enc w.heap.size W xs v
theorem RdAt.far {W W' : World} {g : Nat} {v : Value} {e : Int} {l : List Int} {X : Nat → Prop} (h : RdAt B W g v e l) (hc : Chg X W W') (hx : ∀ k, X k → B ≤ k) (hg : ¬ X g) : RdAt B W' g v e l := by
  obtain ⟨x1, x2, x3, x4⟩ := h
  refine ⟨x1.chg hc hg, ?_, x3, x4⟩
  rcases x2 with x2 | ⟨b, off, cap, y1, y2, y3, y4, y5, y6⟩
  · exact .inl x2
  · exact .inr ⟨b, off, cap, y1, y2, y3, ⟨y4.1, Nat.le_trans y4.2 hc.size⟩, y5, y6.chg hc (fun e => by have := hx b e; omega)⟩
theorem byV.rb {A : Nat} {W : World} {x : List Int} {v : Value} (h : byV A W x v) (hb : Bytes x) (hl : x.length ≤ 140737488355328) : RB (fun k => A ≤ k ∧ k < W.heap.size) W v x :=
  ⟨h.1.rd, hb, hl, fun g e => ⟨h.2 g e, h.1.lt e⟩⟩
theorem nil_rll (W : World) : RLL NoneB NoneB W (.slice none 0 0) [] := ⟨[], (Buf.nil W 1).rd, fun i u l h => by simp at h, by simp, fun g h => by simp [Value.ownBlock] at h⟩
set_option maxRecDepth 100000 in
set_option maxHeartbeats 2000000 in
theorem list_in_gen (f : Nat) (x : Value) (hrun : ∀ args W, (callFunc f args).run Tryd.prog W = .ok (.enter f args) W) (g : Nat) (hf : ∀ v l W, RdAt B W g v 0 l → B ≤ W.heap.size → g < W.heap.size → Calls Tryd.prog f #[x] W (ReadT B rdIn (encIn W.heap.size) g l W))
    (v : Value) (l : List Int) (n : Nat) (hn : n ≤ 25000) (w : World) (h : RdAt B w g v 0 l) (hB : B ≤ w.heap.size) (hg : g < w.heap.size) :
    Calls Tryd.prog 70 #[.int .i64 n, .func (.func f) #[x] #[]] w (ReadT B (rdMany rdIn n) (encIns w.heap.size) g l w) := by
  have HBG := Lib.hid (And.intro hB hg)
  have HH := Lib.hid h
  have HF := Lib.hid hf
  clear h hB hg hf
  go_enter Tryd.func70, Tryd.ntmps70
  go_wp2
  go_loopw [5, 7] (fun vv c wr => ∃ i : Nat, i ≤ n ∧ c = .int .i64 i ∧ ListSt B rdIn encIns g l w wr i vv) (fun _ c _ => (n - intOf c).toNat)
  case atStart => exact ⟨0, by omega, rfl, [], v, l, Chg.refl _ _, rfl, HH.out, _, _, _, _, OwnI.nil _ _⟩
  case round =>
    obtain ⟨i, hi, rfl, hst⟩ := hrel
    obtain ⟨xs, v', l', hc, hp, hr, S, T, cs, ps, hown⟩ := hst
    have HC := Lib.hid hc; have HP := Lib.hid hp; have HR := Lib.hid hr; have HOWN := Lib.hid hown
    have hxl := rdMany_len _ _ _ _ hp
    obtain ⟨va, vc, rfl⟩ := hown.any
    have HXL := Lib.hid hxl
    rw [hxl]
    by_cases hlt : i < n
    · have hB2 : B ≤ wr.heap.size := by have := hc.size; have := HBG.out.1; omega
      have hg2 : g < wr.heap.size := by have := hc.size; have := HBG.out.2; omega
      clear hc hp hr hown hxl
      go_wp2
      refine (HF.out v' l' wr HR.out hB2 hg2).mono ?_
      rintro r W1 ⟨hc1, hcs⟩
      have HC1 := Lib.hid hc1
      clear hc1
      rcases hcs with ⟨d, val, v1, l1, hp1, rfl, henc, hr1⟩ | ⟨c1, hp1, rfl⟩
      · obtain ⟨sv, rfl, hby⟩ := henc
        obtain ⟨g1, g2, g3, g4, g5, g6⟩ := rdIn_inv HR.out.bytes hp1
        obtain ⟨s1, s2, s3, rfl⟩ := byV.slice hby
        have HFACT := Lib.hid (show RIn (fun k => wr.heap.size ≤ k ∧ k < W1.heap.size) NoneB W1 (.slice s1 s2 s3) (.slice none 0 0) d from ⟨g1, hby.rb g2 (by omega), by rw [g4]; exact (nil_rll _).mono (fun _ h => h.elim) (fun _ h => h)⟩)
        have HLEN := Lib.hid (inCells_length d (.slice s1 s2 s3) (.slice none 0 0) g1.hashLen)
        have HP1 := Lib.hid hp1; have HR1 := Lib.hid hr1
        clear hby g1 g2 g3 g4 g5 g6 hp1 hr1
        go_wp2_with (first
          | (refine wpList_buildSlice1 rfl 58 106 _ rfl 36 96 Tryd.underlying58 in_info in_zero (by decide) (inCells d _ _) rfl HLEN.out ?_)
          | (refine owni_append2 rfl _ _ rfl HOWN.out HC.out.size HC1.out (fun k hk => by have := HBG.out.2; omega) HFACT.out (fun k hk => by rcases hk with hk | hk; exact hk; exact hk.elim) (fun k _ h => h.elim) (by rw [HXL.out]; rfl) 1 _ _ rfl rfl (by rw [HXL.out]; omega) ?_; intro v9 w9 hO9 hC9 hS9; obtain ⟨a9, c9, rfl⟩ := hO9.any; have HO9 := Lib.hid hO9; have HC9 := Lib.hid hC9; clear hO9 hC9 hS9))
        go_roundw
        case rel =>
          have hnb : ∀ k, Value.ownBlock (.slice va i vc) = some k → w.heap.size ≤ k := fun k e => HOWN.out.new k (by rw [HXL.out]; exact e)
          have hx9 : Chg (fun k => Value.ownBlock (.slice va i vc) = some k) W1 w9 := by
            have := HC9.out
            rw [HXL.out] at this
            exact ((keeps_alloc (Keeps.refl _) _).chg _).trans this
          refine ⟨i + 1, by omega, by go_num, xs ++ [d], v1, l1, chg_then (HC.out.trans HC1.out) hx9 (fun k e => .inl (hnb k e)), rdMany_next HP.out HP1.out, ?_, _, _, _, _, by have h9 := HO9.out; rw [show (xs ++ [d]).length = xs.length + 1 by simp] at h9; exact h9⟩
          exact HR1.out.far hx9 (fun k e => by have := hnb k e; have := HBG.out.1; omega) (fun e => by have := hnb g e; have := HBG.out.2; omega)
        case measure => simp [intOf]; omega
      · exact ⟨rfl, HC.out.trans HC1.out, .inr ⟨c1, rdMany_stop (rdMany_fail HP.out hp1) n (by omega), rfl⟩⟩
    · obtain rfl : i = n := by omega
      clear hc hp hr hown hxl
      go_wp2
      go_ret
      exact ⟨HC.out, .inl ⟨xs, _, v', l', HP.out, rfl, ⟨S, T, cs, ps, by have := HOWN.out; rwa [HXL.out] at this⟩, HR.out⟩⟩
set_option maxRecDepth 100000 in
set_option maxHeartbeats 2000000 in
theorem list_out_gen (f : Nat) (x : Value) (hrun : ∀ args W, (callFunc f args).run Tryd.prog W = .ok (.enter f args) W) (g : Nat) (hf : ∀ v l W, RdAt B W g v 0 l → B ≤ W.heap.size → g < W.heap.size → Calls Tryd.prog f #[x] W (ReadT B rdOut (encOut W.heap.size) g l W))
    (v : Value) (l : List Int) (n : Nat) (hn : n ≤ 25000) (w : World) (h : RdAt B w g v 0 l) (hB : B ≤ w.heap.size) (hg : g < w.heap.size) :
    Calls Tryd.prog 72 #[.int .i64 n, .func (.func f) #[x] #[]] w (ReadT B (rdMany rdOut n) (encOuts w.heap.size) g l w) := by
  have HBG := Lib.hid (And.intro hB hg)
  have HH := Lib.hid h
  have HF := Lib.hid hf
  clear h hB hg hf
  go_enter Tryd.func72, Tryd.ntmps72
  go_wp2
  go_loopw [5, 7] (fun vv c wr => ∃ i : Nat, i ≤ n ∧ c = .int .i64 i ∧ ListSt B rdOut encOuts g l w wr i vv) (fun _ c _ => (n - intOf c).toNat)
  case atStart => exact ⟨0, by omega, rfl, [], v, l, Chg.refl _ _, rfl, HH.out, _, _, _, OwnO.nil _ _⟩
  case round =>
    obtain ⟨i, hi, rfl, hst⟩ := hrel
    obtain ⟨xs, v', l', hc, hp, hr, S, cs, ps, hown⟩ := hst
    have HC := Lib.hid hc; have HP := Lib.hid hp; have HR := Lib.hid hr; have HOWN := Lib.hid hown
    have hxl := rdMany_len _ _ _ _ hp
    obtain ⟨va, vc, rfl⟩ := hown.any
    have HXL := Lib.hid hxl
    rw [hxl]
    by_cases hlt : i < n
    · have hB2 : B ≤ wr.heap.size := by have := hc.size; have := HBG.out.1; omega
      have hg2 : g < wr.heap.size := by have := hc.size; have := HBG.out.2; omega
      clear hc hp hr hown hxl
      go_wp2
      refine (HF.out v' l' wr HR.out hB2 hg2).mono ?_
      rintro r W1 ⟨hc1, hcs⟩
      have HC1 := Lib.hid hc1
      clear hc1
      rcases hcs with ⟨d, val, v1, l1, hp1, rfl, henc, hr1⟩ | ⟨c1, hp1, rfl⟩
      · obtain ⟨sv, rfl, hby⟩ := henc
        obtain ⟨g1, g2, g3, g5, g6⟩ := rdOut_inv HR.out.bytes hp1
        obtain ⟨s1, s2, s3, rfl⟩ := byV.slice hby
        have HFACT := Lib.hid (hby.rb g2 (by omega))
        have HVAL := Lib.hid g1
        have HP1 := Lib.hid hp1; have HR1 := Lib.hid hr1
        clear hby g1 g2 g3 g5 g6 hp1 hr1
        go_wp2_with (first
          | (refine wpList_buildSlice1 rfl 59 108 _ rfl 2 32 Tryd.underlying59 out_info out_zero (by decide) (outCells d _) rfl rfl ?_)
          | (refine owno_append2 rfl _ _ rfl HOWN.out HC.out.size HC1.out (fun k hk => by have := HBG.out.2; omega) HFACT.out HVAL.out (fun k hk => hk) (by rw [HXL.out]; rfl) 1 _ _ rfl rfl (by rw [HXL.out]; omega) ?_; intro v9 w9 hO9 hC9 hS9; obtain ⟨a9, c9, rfl⟩ := hO9.any; have HO9 := Lib.hid hO9; have HC9 := Lib.hid hC9; clear hO9 hC9 hS9))
        go_roundw
        case rel =>
          have hnb : ∀ k, Value.ownBlock (.slice va i vc) = some k → w.heap.size ≤ k := fun k e => HOWN.out.new k (by rw [HXL.out]; exact e)
          have hx9 : Chg (fun k => Value.ownBlock (.slice va i vc) = some k) W1 w9 := by
            have := HC9.out
            rw [HXL.out] at this
            exact ((keeps_alloc (Keeps.refl _) _).chg _).trans this
          refine ⟨i + 1, by omega, by go_num, xs ++ [d], v1, l1, chg_then (HC.out.trans HC1.out) hx9 (fun k e => .inl (hnb k e)), rdMany_next HP.out HP1.out, ?_, _, _, _, by have h9 := HO9.out; rw [show (xs ++ [d]).length = xs.length + 1 by simp] at h9; exact h9⟩
          exact HR1.out.far hx9 (fun k e => by have := hnb k e; have := HBG.out.1; omega) (fun e => by have := hnb g e; have := HBG.out.2; omega)
        case measure => simp [intOf]; omega
      · exact ⟨rfl, HC.out.trans HC1.out, .inr ⟨c1, rdMany_stop (rdMany_fail HP.out hp1) n (by omega), rfl⟩⟩
    · obtain rfl : i = n := by omega
      clear hc hp hr hown hxl
      go_wp2
      go_ret
      exact ⟨HC.out, .inl ⟨xs, _, v', l', HP.out, rfl, ⟨S, cs, ps, by have := HOWN.out; rwa [HXL.out] at this⟩, HR.out⟩⟩
set_option maxRecDepth 100000 in
set_option maxHeartbeats 2000000 in
theorem list_text_gen (f : Nat) (x : Value) (hrun : ∀ args W, (callFunc f args).run Tryd.prog W = .ok (.enter f args) W) (g : Nat) (hf : ∀ v l W, RdAt B W g v 0 l → B ≤ W.heap.size → g < W.heap.size → Calls Tryd.prog f #[x] W (ReadT B (rdList 100000) (byV W.heap.size) g l W))
    (v : Value) (l : List Int) (n : Nat) (hn : n ≤ 25000) (w : World) (h : RdAt B w g v 0 l) (hB : B ≤ w.heap.size) (hg : g < w.heap.size) :
    Calls Tryd.prog 74 #[.int .i64 n, .func (.func f) #[x] #[]] w (ReadT B (rdMany (rdList 100000) n) (encTexts w.heap.size) g l w) := by
  have HBG := Lib.hid (And.intro hB hg)
  have HH := Lib.hid h
  have HF := Lib.hid hf
  clear h hB hg hf
  go_enter Tryd.func74, Tryd.ntmps74
  go_wp2
  go_loopw [5, 7] (fun vv c wr => ∃ i : Nat, i ≤ n ∧ c = .int .i64 i ∧ ListSt B (rdList 100000) encTexts g l w wr i vv) (fun _ c _ => (n - intOf c).toNat)
  case atStart => exact ⟨0, by omega, rfl, [], v, l, Chg.refl _ _, rfl, HH.out, _, OwnLL.nil _ _⟩
  case round =>
    obtain ⟨i, hi, rfl, hst⟩ := hrel
    obtain ⟨xs, v', l', hc, hp, hr, vs, hown⟩ := hst
    have HC := Lib.hid hc; have HP := Lib.hid hp; have HR := Lib.hid hr; have HOWN := Lib.hid hown
    have hxl := rdMany_len _ _ _ _ hp
    obtain ⟨va, vc, rfl⟩ := hown.any
    have HXL := Lib.hid hxl
    rw [hxl]
    by_cases hlt : i < n
    · have hB2 : B ≤ wr.heap.size := by have := hc.size; have := HBG.out.1; omega
      have hg2 : g < wr.heap.size := by have := hc.size; have := HBG.out.2; omega
      clear hc hp hr hown hxl
      go_wp2
      refine (HF.out v' l' wr HR.out hB2 hg2).mono ?_
      rintro r W1 ⟨hc1, hcs⟩
      have HC1 := Lib.hid hc1
      clear hc1
      rcases hcs with ⟨d, val, v1, l1, hp1, rfl, henc, hr1⟩ | ⟨c1, hp1, rfl⟩
      · have hby := henc
        obtain ⟨g2, g3, g4, g5, g6⟩ := rdList_inv HR.out.bytes hp1
        obtain ⟨s1, s2, s3, rfl⟩ := byV.slice hby
        have HFACT := Lib.hid (hby.rb g2 (by omega))
        have HP1 := Lib.hid hp1; have HR1 := Lib.hid hr1
        clear henc hby g2 g3 g4 g5 g6 hp1 hr1
        go_wp2_with (first
          | (refine ownl_append2 rfl _ _ rfl HOWN.out HC.out.size HC1.out (fun k hk => by have := HBG.out.2; omega) HFACT.out (by rw [HXL.out]; rfl) 1 _ rfl (by rw [HXL.out]; omega) ?_; intro v9 w9 hO9 hC9; obtain ⟨a9, c9, rfl⟩ := hO9.any; have HO9 := Lib.hid hO9; have HC9 := Lib.hid hC9; clear hO9 hC9))
        go_roundw
        case rel =>
          have hnb : ∀ k, Value.ownBlock (.slice va i vc) = some k → w.heap.size ≤ k := fun k e => HOWN.out.new k (by rw [HXL.out]; exact e)
          have hx9 : Chg (fun k => Value.ownBlock (.slice va i vc) = some k) W1 w9 := by
            have := HC9.out
            rw [HXL.out] at this
            exact ((keeps_alloc (Keeps.refl _) _).chg _).trans this
          refine ⟨i + 1, by omega, by go_num, xs ++ [d], v1, l1, chg_then (HC.out.trans HC1.out) hx9 (fun k e => .inl (hnb k e)), rdMany_next HP.out HP1.out, ?_, _, by have h9 := HO9.out; rw [show (xs ++ [d]).length = xs.length + 1 by simp] at h9; exact h9⟩
          exact HR1.out.far hx9 (fun k e => by have := hnb k e; have := HBG.out.1; omega) (fun e => by have := hnb g e; have := HBG.out.2; omega)
        case measure => simp [intOf]; omega
      · exact ⟨rfl, HC.out.trans HC1.out, .inr ⟨c1, rdMany_stop (rdMany_fail HP.out hp1) n (by omega), rfl⟩⟩
    · obtain rfl : i = n := by omega
      clear hc hp hr hown hxl
      go_wp2
      go_ret
      exact ⟨HC.out, .inl ⟨xs, _, v', l', HP.out, rfl, ⟨vs, by have := HOWN.out; rwa [HXL.out] at this⟩, HR.out⟩⟩
end Go.Proofs.YtcodpdpeklammaaDoor
