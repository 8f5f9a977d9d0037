/- curve's field: a difference. No condition. | A region that draws its order, whose last operations come in one forced order: its head under a condition S on the world (a load may be taken first where nobody in the head writes its cell), then the tail as a plain list. No condition. | The reference's numbers: eight words; read from bytes, compared, whether one is a key. No condition. | The reference's Less, N and Key. No condition. -/
import Derived.Test.YtlofddoojkeakaaDoorGA7
import Derived.StillTail
import Derived.Deep.RegionHeld
import Derived.Test.YtlofddoojkeakaaDoorGA4
namespace Go.Proofs.YtlofddoojkeakaaDoor
set_option linter.unusedVariables false
set_option linter.unusedSimpArgs false
open Go Go.RowKit

set_option maxRecDepth 100000 in
set_option maxHeartbeats 1000000 in
theorem sub_any (g off : Nat) (m x y : Int) (hm : U256 m) (hx : 0 ≤ x ∧ x < m) (hy : 0 ≤ y ∧ y < m) (w : World) (hr : Row w g off ((words m).map (Value.int .u64))) :
    Calls Tryd.prog 68 #[.pointer (some ⟨g, off, none⟩), .agg ((words x).map (Value.int .u64)).toArray, .agg ((words y).map (Value.int .u64)).toArray] w fun e w' => e = .returned (.agg ((words ((x - y) % m)).map (Value.int .u64)).toArray) ∧ Keeps w w' := by
  have hn : 0 ≤ (if y = 0 then 0 else m - y) ∧ (if y = 0 then 0 else m - y) < m := by split <;> omega
  have he : (x + (if y = 0 then 0 else m - y)) % m = (x - y) % m := by
    split
    · rename_i h; rw [h, Int.add_zero, Int.sub_zero]
    · rw [show x + (m - y) = (x - y) + m by omega, Int.add_emod_right]
  have HNEG := Lib.hid (fun W hW => neg_any g off m y hm ⟨hy.1, Int.lt_trans hy.2 hm.2⟩ W hW)
  have HADD := Lib.hid (fun W hW => add_any g off m x (if y = 0 then 0 else m - y) hm hx hn W hW)
  rw [he] at HADD
  have hl := words_length x
  have hyl := words_length y
  have hrl := words_length ((x - y) % m)
  have HROW := Lib.hid hr
  clear he hn hr hx hy hm
  generalize words (if y = 0 then 0 else m - y) = NN at *
  generalize words ((x - y) % m) = RES at *
  generalize words x = X at *
  generalize words y = Y at *
  generalize words m = MM at *
  go_enter Tryd.func68, Tryd.ntmps68
  go_upto_region 1 with (fail)
  refine wp_rows3 (fun W hk hra hrb hr2 hs => ?_)
  obtain ⟨p, hp⟩ : ∃ p, p = w.heap.size := ⟨_, rfl⟩
  rw [← hp] at hra hrb hr2 hs ⊢
  have hkp : w.heap.size ≤ p := by omega
  obtain ⟨Z, hZ, hrz⟩ : ∃ Z : List Value, Z.length = 4 ∧ Row W (p + 1 + 1) 0 Z := ⟨_, rfl, hr2⟩
  have HRA := Lib.hid (show Row W p 0 (X.map (Value.int .u64)) from hra); have HRB := Lib.hid (show Row W (p + 1) 0 (Y.map (Value.int .u64)) from hrb); have HRZ := Lib.hid hrz; have HK := Lib.hid hk
  clear hp hra hrb hr2 hrz hk
  go_cut [] (fun wx => Row wx (p + 1 + 1) 0 (RES.map (Value.int .u64)) ∧ Keeps w wx)
  case first =>
    refine wp_region_held_drew (S := (fun W' => Keeps w W' ∧ Row W' p 0 (X.map (Value.int .u64)) ∧ Row W' (p + 1) 0 (Y.map (Value.int .u64)))) (by kernel_rfl) ?_ (fun hHeld => ?_)
    focus ((try dsimp only); exact ⟨keeps_drew1 HK.out, HRA.out.drew, HRB.out.drew⟩)
    have HRZ1 := HRZ.out.drew
    refine wpAnyH_take (i := 0) (oi := ?_) (v := ?_) ?_ ?_ ?_ ?_ ?_ (Or.inl ⟨?_, ?_⟩) ?_ ?_
    rotate_left 2
    focus (simp only [List.getElem?_toArray, List.getElem?_cons_succ, List.getElem?_cons_zero]; exact rfl)
    iterate 3 focus kernel_rfl
    focus (exact fun _ _ _ h => h)
    focus rfl
    focus ((intro w hSw; (try dsimp only at hSw); go_simp) <;> with_reducible rfl)
    focus assumption
    try simp only [Act.put, List.setIfInBounds_toArray, List.set_cons_zero, List.set_cons_succ]
    refine wpAnyH_take (i := 1) (oi := ?_) (v := ?_) ?_ ?_ ?_ ?_ ?_ ?_ ?_ ?_
    rotate_left 2
    focus (simp only [List.getElem?_toArray, List.getElem?_cons_succ, List.getElem?_cons_zero]; exact rfl)
    iterate 3 focus kernel_rfl
    focus (exact fun _ _ _ h => h)
    focus (refine cu_yields_row ?_ 70 (.tmp 4) ?_ p 0 ?_ (X.map (Value.int .u64)) _ ?_ Tryd.underlying70 ?_ (by rw [List.length_map, hl]; exact sz_cnum) <;> first | rfl | exact (fun w hw => hw.2.1))
    focus assumption
    try simp only [Act.put, List.setIfInBounds_toArray, List.set_cons_zero, List.set_cons_succ]
    refine wpAnyH_take (i := 2) (oi := ?_) (v := ?_) ?_ ?_ ?_ ?_ ?_ (Or.inl ⟨?_, ?_⟩) ?_ ?_
    rotate_left 2
    focus (simp only [List.getElem?_toArray, List.getElem?_cons_succ, List.getElem?_cons_zero]; exact rfl)
    iterate 3 focus kernel_rfl
    focus (exact fun _ _ _ h => h)
    focus rfl
    focus ((intro w hSw; (try dsimp only at hSw); go_simp) <;> with_reducible rfl)
    focus assumption
    try simp only [Act.put, List.setIfInBounds_toArray, List.set_cons_zero, List.set_cons_succ]
    refine wpAnyH_take (i := 3) (oi := ?_) (v := ?_) ?_ ?_ ?_ ?_ ?_ ?_ ?_ ?_
    rotate_left 2
    focus (simp only [List.getElem?_toArray, List.getElem?_cons_succ, List.getElem?_cons_zero]; exact rfl)
    iterate 3 focus kernel_rfl
    focus (exact fun _ _ _ h => h)
    focus (refine cu_yields_row ?_ 70 (.tmp 5) ?_ (p + 1) 0 ?_ (Y.map (Value.int .u64)) _ ?_ Tryd.underlying70 ?_ (by rw [List.length_map, hyl]; exact sz_cnum) <;> first | rfl | exact (fun w hw => hw.2.2))
    focus assumption
    try simp only [Act.put, List.setIfInBounds_toArray, List.set_cons_zero, List.set_cons_succ]
    refine wpAnyH_ready (rs := [4]) (by kernel_rfl) (by simp) ?_
    refine AllReadyH.cons (o := ?_) ?_ (fun K hK => ?_) ?_
    rotate_left 1
    focus (simp only [List.getElem?_toArray, List.getElem?_cons_succ, List.getElem?_cons_zero]; exact rfl)
    · rw [if_pos (by rfl)]
      go_simp; go_at_call 80; refine (HNEG.out _ (HROW.out.keeps hHeld.1)).mono ?_; rintro e W1 ⟨rfl, hk1⟩
      refine hK.out _ _ ?_ ?_
      focus ((try dsimp only); first | exact ⟨hHeld.1.trans hk1, hHeld.2.1.keeps hk1, hHeld.2.2.keeps hk1⟩ | exact ⟨hHeld.1.trans hk2, hHeld.2.1.keeps hk2, hHeld.2.2.keeps hk2⟩ | exact ⟨nm_keeps_chg hHeld.1 hc9 (by omega), hHeld.2.1.chg hc9 (by omega), hHeld.2.2.chg hc9 (by omega)⟩)
      clear hK K hHeld
      intro hHeld
      try simp only [Act.put, List.setIfInBounds_toArray, List.set_cons_zero, List.set_cons_succ]
      refine wpAnyH_ready (rs := [5]) (by kernel_rfl) (by simp) ?_
      refine AllReadyH.cons (o := ?_) ?_ (fun K hK => ?_) ?_
      rotate_left 1
      focus (simp only [List.getElem?_toArray, List.getElem?_cons_succ, List.getElem?_cons_zero]; exact rfl)
      · rw [if_pos (by rfl)]
        go_simp; go_at_call 37; refine (HADD.out _ (HROW.out.keeps hHeld.1)).mono ?_; rintro e W2 ⟨rfl, hk2⟩
        refine hK.out _ _ ?_ ?_
        focus ((try dsimp only); first | exact ⟨hHeld.1.trans hk1, hHeld.2.1.keeps hk1, hHeld.2.2.keeps hk1⟩ | exact ⟨hHeld.1.trans hk2, hHeld.2.1.keeps hk2, hHeld.2.2.keeps hk2⟩ | exact ⟨nm_keeps_chg hHeld.1 hc9 (by omega), hHeld.2.1.chg hc9 (by omega), hHeld.2.2.chg hc9 (by omega)⟩)
        clear hK K hHeld
        intro hHeld
        try simp only [Act.put, List.setIfInBounds_toArray, List.set_cons_zero, List.set_cons_succ]
        refine wpAnyH_ready (rs := [6]) (by kernel_rfl) (by simp) ?_
        refine AllReadyH.cons (o := ?_) ?_ (fun K hK => ?_) ?_
        rotate_left 1
        focus (simp only [List.getElem?_toArray, List.getElem?_cons_succ, List.getElem?_cons_zero]; exact rfl)
        · rw [if_pos (by rfl)]
          refine cu_store_rowK 70 (.tmp 6) (.tmp 12) rfl _ 0 rfl Z (RES.map (Value.int .u64)) rfl ((HRZ1.keeps hk1).keeps hk2) (by simp [hZ, hrl]) (by rw [List.length_map, hrl]; exact sz_cnum) (int_oneCell _) ?_; intro W9 hr9 hc9
          refine hK.out _ _ ?_ ?_
          focus ((try dsimp only); first | exact ⟨hHeld.1.trans hk1, hHeld.2.1.keeps hk1, hHeld.2.2.keeps hk1⟩ | exact ⟨hHeld.1.trans hk2, hHeld.2.1.keeps hk2, hHeld.2.2.keeps hk2⟩ | exact ⟨nm_keeps_chg hHeld.1 hc9 (by omega), hHeld.2.1.chg hc9 (by omega), hHeld.2.2.chg hc9 (by omega)⟩)
          clear hK K hHeld
          intro hHeld
          try simp only [Act.put, List.setIfInBounds_toArray, List.set_cons_zero, List.set_cons_succ]
          refine wpAnyH_done (by kernel_rfl) ?_ _
          (go_wp2; go_meet; case rel => exact ⟨by assumption, hHeld.1⟩)
        exact AllReadyH.nil
      exact AllReadyH.nil
    exact AllReadyH.nil
  case rest =>
    obtain ⟨hrr, hk⟩ := hcut
    have H9 := Lib.hid hrr; have HKZ := Lib.hid hk
    clear hrr hk
    go_wp2
    exact bodyPost_ret (v := .agg (RES.map (Value.int .u64)).toArray) (results_cell_at (p := 6) (ty := 70) rfl _ _ (p + 1 + 1) 0 _ _ rfl H9.out Tryd.underlying70 rfl (by rw [List.length_map, hrl]; exact sz_cnum)) rfl ⟨rfl, HKZ.out⟩
end Go.Proofs.YtlofddoojkeakaaDoor
namespace Go.Proofs.YtlofddoojkeakaaDoor
set_option linter.unusedVariables false
set_option linter.unusedSimpArgs false
open Go
theorem kG {α : Type} : (∀ (l : List α) (i : Nat), l.toArray[i]? = l[i]?) ∧ (∀ (a : α) (l : List α) (i : Nat), (a :: l)[i + 1]? = l[i]?) ∧ (∀ (a : α) (l : List α), (a :: l)[0]? = some a) := ⟨fun _ _ => List.getElem?_toArray, fun _ _ _ => List.getElem?_cons_succ, fun _ _ => List.getElem?_cons_zero⟩
theorem kP : (∀ (a : Act) (d : Tmp) (v : Value), Act.put a (some d) v = { a with tmps := a.tmps.setIfInBounds d v }) ∧ (∀ (a : Act) (v : Value), Act.put a none v = a) ∧ (∀ (l : List Value) (i : Nat) (v : Value), l.toArray.setIfInBounds i v = (l.set i v).toArray) ∧ (∀ (a v : Value) (l : List Value), (a :: l).set 0 v = v :: l) ∧ (∀ (a v : Value) (l : List Value) (n : Nat), (a :: l).set (n + 1) v = a :: l.set n v) := ⟨fun _ _ _ => rfl, fun _ _ => rfl, fun _ _ _ => List.setIfInBounds_toArray .., fun _ _ _ => rfl, fun _ _ _ _ => rfl⟩
theorem kD : (∀ (l : List Oper), l.drop 0 = l) ∧ (∀ (a : Oper) (l : List Oper) (n : Nat), (a :: l).drop (n + 1) = l.drop n) := ⟨fun _ => rfl, fun _ _ _ => rfl⟩
section
variable {P : Program} {ops : Array Oper} {md : Region.Mode} {S : World → Prop} {Q : Exit → Act → World → Prop}
def wpAnyHL (P : Program) (md : Region.Mode) (ops : Array Oper) (Q : Exit → Act → World → Prop) (S : World → Prop) (n : Nat) (L : Array Bool → Act → World → Prop) : Nat → Array Bool → Act → World → Prop
  | 0, listed, a, w => L listed a w
  | f + 1, listed, a, w =>
    Region.ready md ops listed ≠ [] ∧ ∀ i ∈ Region.ready md ops listed, i < n ∧ wpOp P ops Q i (fun a' w' => S w' ∧ wpAnyHL P md ops Q S n L f (listed.setIfInBounds i true) a' w') a w
theorem wpAny_of_HL {n g : Nat} {L : Array Bool → Act → World → Prop} (hL : ∀ listed a w, L listed a w → wpAny P md ops Q g listed a w) :
    ∀ (f : Nat) (listed : Array Bool) (a : Act) (w : World), wpAnyHL P md ops Q S n L f listed a w → wpAny P md ops Q (f + g) listed a w
  | 0, listed, a, w, h => by rw [Nat.zero_add]; exact hL _ _ _ h
  | f + 1, listed, a, w, h => by
    rw [show f + 1 + g = (f + g) + 1 by omega]
    exact ⟨fun h0 => absurd h0 h.1, fun i hi => wpOp_mono (fun a' w' h' => wpAny_of_HL hL f _ a' w' h'.2) (h.2 i hi).2⟩
theorem wpAnyHL_first {n i : Nat} {oi : Oper} {v : Value} {L : Array Bool → Act → World → Prop} (hi : ops[i]? = some oi) (hsel : ∀ (j : Nat) (o : Oper) cs b, ops[j]? = some o → o.op ≠ .select cs b)
    (hs : Region.sinkB md ops n = true) (hc : Region.chainB md ops n = true) (hn : n < ops.size) (hin : i < n)
    (hQ : ∀ c a w, Q (.panic c) (a.put oi.dst v) w → Q (.panic c) a w)
    (hdone : ∀ listed a w, L listed a w → ∀ j ∈ Region.ready md ops listed, n ≤ j) :
    ∀ (f : Nat) (listed : Array Bool) (a : Act) (w : World), HeadInv md ops n listed →
      (∀ j oj, ops[j]? = some oj → j ≠ i → listed.getD j true = false → (∀ e ∈ oj.after, Region.binds md e = true → e.on ≠ i) → oi.apart ops oj = true) →
      i ∈ Region.ready md ops listed → YieldsIf P ops S oi v a → S w →
      wpAnyHL P md ops Q S n L f (listed.setIfInBounds i true) (a.put oi.dst v) w → wpAnyHL P md ops Q S n L (f + 1) listed a w := by
  intro f
  induction f with
  | zero =>
    intro listed a w inv _ hr hy hS H
    have hun := (mem_ready.1 hr).1
    refine ⟨fun h => (by rw [h] at hr; cases hr), fun j hj => ?_⟩
    have hjn : j < n := by
      rcases Nat.lt_or_ge j n with h | h
      · exact h
      · exact absurd hj (tail_waits hs hc hn inv _ i rfl hin hun j h)
    refine ⟨hjn, ?_⟩
    by_cases hji : j = i
    · subst hji; exact hy.wpOp hi hS ⟨hS, H⟩
    · have := hdone _ _ _ H j (ready_mono hj hji)
      omega
  | succ f ih =>
    intro listed a w inv hfree hr hy hS H
    have hun := (mem_ready.1 hr).1
    refine ⟨fun h => (by rw [h] at hr; cases hr), fun j hj => ?_⟩
    have hjn : j < n := by
      rcases Nat.lt_or_ge j n with h | h
      · exact h
      · exact absurd hj (tail_waits hs hc hn inv _ i rfl hin hun j h)
    refine ⟨hjn, ?_⟩
    by_cases hji : j = i
    · subst hji; exact hy.wpOp hi hS ⟨hS, H⟩
    · have h1 := (H.2 j (ready_mono hj hji)).2
      obtain ⟨hjun, oj, hoj, hall⟩ := mem_ready.1 hj
      have hnot : ∀ e ∈ oj.after, Region.binds md e = true → e.on ≠ i := fun e he hb heq => by
        have h1 := hall e he hb
        rw [heq, getD_both hun] at h1
        cases h1
      have h2 := wpOp_putIf hoj (hfree j oj hoj hji hjun hnot) (fun cs b => hsel i oi cs b hi) (fun cs b => hsel j oj cs b hoj) hQ hy h1
      have hfree' : ∀ k ok, ops[k]? = some ok → k ≠ i → (listed.setIfInBounds j true).getD k true = false →
          (∀ e ∈ ok.after, Region.binds md e = true → e.on ≠ i) → oi.apart ops ok = true := fun k ok hk hki hun hno => by
        refine hfree k ok hk hki ?_ hno
        by_cases hjk : j = k
        · subst hjk; exact hjun
        · rw [getD_set_ne true hjk] at hun; exact hun
      refine wpOp_mono (fun a' w' h3 => ⟨h3.2.1, ih (listed.setIfInBounds j true) a' w' (inv.set hj hjn) hfree' (ready_mono hr (Ne.symm hji)) h3.1 h3.2.1 ?_⟩) h2
      rw [Array.setIfInBounds_comm _ _ hji]
      exact h3.2.2
/-- the tail, once the head is done -/
def TailL (P : Program) (md : Region.Mode) (ops : Array Oper) (Q : Exit → Act → World → Prop) (n : Nat) (tail : List Oper) (listed : Array Bool) (a : Act) (w : World) : Prop := Region.seqB md ops tail.length n listed = true ∧ wpList P ops Q tail a w
def headInvB (md : Region.Mode) (ops : Array Oper) (n : Nat) (listed : Array Bool) : Bool :=
  decide (listed.size = ops.size) && (List.range ops.size).all (fun j => !(listed.getD j false) || (match ops[j]? with | some oj => oj.after.all (fun e => !(Region.binds md e) || listed.getD e.on false) | none => true)) &&
    (List.range ops.size).all (fun t => decide (t < n) || !(listed.getD t true))
theorem headInv_of {n : Nat} {listed : Array Bool} (h : headInvB md ops n listed = true) : HeadInv md ops n listed := by
  unfold headInvB at h
  simp only [Bool.and_eq_true, decide_eq_true_eq] at h
  obtain ⟨⟨h1, h2⟩, h3⟩ := h
  refine ⟨h1, fun j oj hj hl e he hb => ?_, fun t ht hts => ?_⟩
  · have := List.all_eq_true.1 h2 j (List.mem_range.2 (Array.getElem?_eq_some_iff.1 hj).1)
    rw [hl, hj] at this
    simp only [Bool.not_true, Bool.false_or] at this
    have := Array.all_eq_true'.1 this e he
    simpa [hb] using this
  · have := List.all_eq_true.1 h3 t (List.mem_range.2 hts)
    have hd : decide (t < n) = false := by simp; omega
    rw [hd] at this
    simpa using this
theorem wpAnyHL_take {n i : Nat} {oi : Oper} {v : Value} {tail : List Oper} {f : Nat} {listed : Array Bool} {a : Act} {w : World} (hi : ops[i]? = some oi) (hsel : Region.noSelect ops = true)
    (hs : Region.sinkB md ops n = true) (hc : Region.chainB md ops n = true) (hn : decide (n < ops.size ∧ i < n) = true) (hinv : headInvB md ops n listed = true)
    (hf : Region.free md ops listed i = true) (hr : (Region.ready md ops listed).contains i = true)
    (hQ : ∀ c a w, Q (.panic c) (a.put oi.dst v) w → Q (.panic c) a w) (hy : YieldsIf P ops S oi v a) (hS : S w)
    (h : wpAnyHL P md ops Q S n (TailL P md ops Q n tail) f (listed.setIfInBounds i true) (a.put oi.dst v) w) : wpAnyHL P md ops Q S n (TailL P md ops Q n tail) (f + 1) listed a w := by
  have hn' := of_decide_eq_true hn
  exact wpAnyHL_first hi (Region.noSelect_spec hsel) hs hc hn'.1 hn'.2 hQ (fun _ _ _ hL => seqB_ready hL.1) f listed a w (headInv_of hinv) (Region.free_spec hi hf) (by simpa using hr) hy hS h
/-- the same step, what it asks filled in -/
theorem lt {n : Nat} (i : Nat) {oi : Oper} {v : Value} {tail : List Oper} {f : Nat} {listed : Array Bool} {a a' : Act} {w : World} (hi : ops[i]? = some oi := by simp only [kG]; exact rfl) (hsel : Region.noSelect ops = true := by kernel_rfl)
    (hs : Region.sinkB md ops n = true := by kernel_rfl) (hc : Region.chainB md ops n = true := by kernel_rfl) (hn : decide (n < ops.size ∧ i < n) = true := by kernel_rfl) (hinv : headInvB md ops n listed = true := by kernel_rfl)
    (hf : Region.free md ops listed i = true := by kernel_rfl) (hr : (Region.ready md ops listed).contains i = true := by kernel_rfl)
    (hw : Region.wanted oi (yielded ops a.tmps) = true := by rfl) (hx : ∀ w, S w → (execOp a.eval oi).run P w = .ok (.value v) w := by (intro wSw hSw; (have hSw := hSw.out); (try dsimp only at hSw); go_simp) <;> with_reducible rfl) (hS : S w := by assumption) (ha : a.put oi.dst v = a' := by (try simp only [kP]); rfl)
    (hQ : ∀ c a w, Q (.panic c) (a.put oi.dst v) w → Q (.panic c) a w := by exact fun _ _ _ h => h)
    (h : wpAnyHL P md ops Q S n (TailL P md ops Q n tail) f (listed.setIfInBounds i true) a' w) : wpAnyHL P md ops Q S n (TailL P md ops Q n tail) (f + 1) listed a w :=
  wpAnyHL_take hi hsel hs hc hn hinv hf hr hQ (.inl ⟨hw, hx⟩) hS (by rw [ha]; exact h)
theorem lsk {n : Nat} (i : Nat) {oi : Oper} {tail : List Oper} {f : Nat} {listed : Array Bool} {a a' : Act} {w : World} (hi : ops[i]? = some oi := by simp only [kG]; exact rfl) (hsel : Region.noSelect ops = true := by kernel_rfl)
    (hs : Region.sinkB md ops n = true := by kernel_rfl) (hc : Region.chainB md ops n = true := by kernel_rfl) (hn : decide (n < ops.size ∧ i < n) = true := by kernel_rfl) (hinv : headInvB md ops n listed = true := by kernel_rfl)
    (hf : Region.free md ops listed i = true := by kernel_rfl) (hr : (Region.ready md ops listed).contains i = true := by kernel_rfl)
    (hw : Region.wanted oi (yielded ops a.tmps) = false := by rfl) (hS : S w := by assumption) (ha : a.put oi.dst undef = a' := by (try simp only [kP]); rfl)
    (hQ : ∀ c a w, Q (.panic c) (a.put oi.dst undef) w → Q (.panic c) a w := by exact fun _ _ _ h => h)
    (h : wpAnyHL P md ops Q S n (TailL P md ops Q n tail) f (listed.setIfInBounds i true) a' w) : wpAnyHL P md ops Q S n (TailL P md ops Q n tail) (f + 1) listed a w :=
  wpAnyHL_take hi hsel hs hc hn hinv hf hr hQ (.inr ⟨hw, rfl⟩) hS (by rw [ha]; exact h)
def AllReadyL (P : Program) (md : Region.Mode) (ops : Array Oper) (Q : Exit → Act → World → Prop) (S : World → Prop) (n : Nat) (L : Array Bool → Act → World → Prop) (fuel : Nat) (listed : Array Bool) (a : Act) (w : World) (rs : List Nat) : Prop :=
  ∀ i ∈ rs, i < n ∧ wpOp P ops Q i (fun a' w' => S w' ∧ wpAnyHL P md ops Q S n L fuel (listed.setIfInBounds i true) a' w') a w
theorem AllReadyL.nil {n : Nat} {L : Array Bool → Act → World → Prop} {fuel : Nat} {listed : Array Bool} {a : Act} {w : World} : AllReadyL P md ops Q S n L fuel listed a w [] := fun _ h => by cases h
theorem AllReadyL.cons {n : Nat} {L : Array Bool → Act → World → Prop} {fuel : Nat} {listed : Array Bool} {a : Act} {w : World} {i : Nat} {o : Oper} {rs : List Nat} (hin : decide (i < n) = true) (ho : ops[i]? = some o)
    (h : ∀ K' : Act → World → Prop, Shut (∀ a w, S w → (S w → wpAnyHL P md ops Q S n L fuel (listed.setIfInBounds i true) a w) → K' a w) → if Region.wanted o (yielded ops a.tmps) = true then Oper.wp P o a w K' Q else K' (a.put o.dst undef) w)
    (hs : AllReadyL P md ops Q S n L fuel listed a w rs) : AllReadyL P md ops Q S n L fuel listed a w (i :: rs) := fun j hj => by
  rcases List.mem_cons.1 hj with rfl | hj
  · exact ⟨of_decide_eq_true hin, wpOp_step ho (fun K' hK => h K' (fun a w hS hW => hK a w ⟨hS, hW hS⟩))⟩
  · exact hs j hj
/-- an exit's condition, but at the normal exit K -/
def StepQ (Q : Exit → Act → World → Prop) (K : Act → World → Prop) : Exit → Act → World → Prop
  | .normal, a, w => K a w
  | e, a, w => Q e a w
theorem wp_stepQ {o : Oper} {a : Act} {w : World} {K K' : Act → World → Prop} (h : o.wp P a w K' (StepQ Q K)) (hk : ∀ a w, K' a w → K a w) : o.wp P a w K Q := by
  unfold Oper.wp at *
  generalize (execOp a.eval o).run P w = r at *
  cases r with
  | ok n w' =>
    cases n <;> simp only [Oper.upon] at h ⊢ <;>
      first
        | exact hk _ _ h
        | exact Calls.mono h (fun e w'' he => by cases e <;> first | exact hk _ _ he | exact he)
        | exact Rows.mono h (fun _ _ he => hk _ _ he)
  | halt x w' => cases x <;> simp only [Oper.upon] at h ⊢ <;> exact h
theorem wpAnyHL_one {n i : Nat} {o : Oper} {L : Array Bool → Act → World → Prop} {fuel : Nat} {listed : Array Bool} {a : Act} {w : World} (hr : Region.ready md ops listed = [i]) (hin : decide (i < n) = true) (ho : ops[i]? = some o)
    (h : wpList P ops (StepQ Q (fun a w => S w ∧ (S w → wpAnyHL P md ops Q S n L fuel (listed.setIfInBounds i true) a w))) [o] a w) : wpAnyHL P md ops Q S n L (fuel + 1) listed a w := by
  refine ⟨by rw [hr]; simp, fun j hj => ?_⟩
  rw [hr] at hj
  obtain rfl : j = i := by simpa using hj
  refine ⟨of_decide_eq_true hin, ?_⟩
  unfold wpOp
  simp only [ho]
  simp only [wpList] at h
  split
  · rename_i hw
    simp only [hw, if_true] at h
    rcases h with h | ⟨h1, h2⟩
    · exact .inl (wp_stepQ h (fun a w hk => ⟨hk.1, hk.2 hk.1⟩))
    · exact .inr ⟨h1, h2⟩
  · rename_i hw
    simp only [hw] at h
    exact ⟨h.1, h.2 h.1⟩
theorem wpAnyHL_done {n : Nat} {tail : List Oper} {listed : Array Bool} {a : Act} {w : World} (hr : Region.seqB md ops tail.length n listed = true) (h : wpList P ops Q tail a w) : wpAnyHL P md ops Q S n (TailL P md ops Q n tail) 0 listed a w := ⟨hr, h⟩
theorem wp_region_head {id : Nat} {a : Act} {w : World} {l : List Oper} (S : World → Prop) (n : Nat) (hm : P.follows .mixedOrders = true) (hn : decide (n ≤ l.length) = true) (hS : S w.drew)
    (h : S w.drew → wpAnyHL P .any l.toArray Q S n (TailL P .any l.toArray Q n (l.drop n)) n (Array.replicate l.toArray.size false) a w.drew) : (Code.region id l.toArray true).wp P Q a w := by
  have hn' := of_decide_eq_true hn
  refine wp_region_any hm ?_
  have hdl : (l.drop n).length = l.toArray.size - n := by simp
  have := wpAny_of_HL (Q := Q) (g := l.toArray.size - n) (fun listed a' w' hL => by
    have := wpAny_of_seq (md := .any) (Q' := Q) (l.drop n) n listed a' w' (fun j => by simp [List.getElem?_drop]) hL.1 hL.2
    rwa [hdl] at this) _ _ _ _ (h hS)
  rw [show n + (l.toArray.size - n) = l.toArray.size by simp; omega] at this
  exact this
end
end Go.Proofs.YtlofddoojkeakaaDoor
namespace Go.Proofs.YtlofddoojkeakaaDoor
set_option linter.unusedVariables false
set_option linter.unusedSimpArgs false
open Go Go.RowKit

/-- the eight words of a number, the lowest first -/
def words8 (v : Int) : List Int := (List.range 8).map fun i => v / 4294967296 ^ i % 4294967296
theorem words8_length (v : Int) : (words8 v).length = 8 := by simp [words8]
theorem words8_getD (v : Int) (i : Nat) (h : i < 8) : (words8 v).getD i 0 = v / 4294967296 ^ i % 4294967296 := by simp [words8, List.getD, h]
theorem B32_pos (i : Nat) : (0 : Int) < 4294967296 ^ i := Int.pow_pos (by decide)
/-- the order of the group -/
def NV : Int := 115792089237316195423570985008687907852837564279074904382605163141518161494337
theorem NV_u256 : U256 NV := by unfold U256 NV; exact ⟨by decide, by decide⟩
/-- is a number a key? -/
def keyB (x : Int) : Bool := decide (0 < x ∧ x < NV)
theorem keyB_zero {x : Int} (h : x = 0) : keyB x = false := decide_eq_false (by omega)
theorem keyB_pos {x : Int} (h : U256 x) (h0 : ¬ x = 0) : keyB x = decide (x < NV) := by
  have := h.1
  unfold keyB
  by_cases h1 : x < NV
  · rw [decide_eq_true h1, decide_eq_true ⟨by omega, h1⟩]
  · rw [decide_eq_false h1, decide_eq_false (fun h => h1 h.2)]
end Go.Proofs.YtlofddoojkeakaaDoor
