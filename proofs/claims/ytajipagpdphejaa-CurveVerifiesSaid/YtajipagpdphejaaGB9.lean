/- A region that draws its order: reads, calls that keep all memory, and new blocks laid at any time: walked once; then its last operations in one forced order. No condition. -/
import Derived.Test.YtajipagpdphejaaGB3
namespace Go.Proofs.Ytajipagpdphejaa
set_option linter.unusedVariables false
set_option linter.unusedSimpArgs false
open Go Go.RowKit
section
variable {P : Program} {ops : Array Oper} {md : Region.Mode} {W : World} {A : Nat → Bool} {zs : Nat → List Value} {val : Nat → Value} {n : Nat} {L : Array Bool → Act → (Nat → Nat) → Prop}
def ptrV (g : Nat) : Value := .pointer (some ⟨g, 0, none⟩)
def keepUpon (P : Program) (w : World) (v : Value) : Result Next → Prop
  | .ok (.value u) w' => w' = w ∧ u = v
  | .ok .skip w' => w' = w ∧ v = undef
  | .ok (.enter f args) w' => w' = w ∧ Calls P f args w (fun e w'' => e = .returned v ∧ Keeps w w'')
  | _ => False
/-- in every world that keeps W an operation leaves v, and keeps memory -/
def YieldsK (P : Program) (ops : Array Oper) (W : World) (o : Oper) (v : Value) (a : Act) : Prop :=
  (Region.wanted o (yielded ops a.tmps) = true ∧ ∀ w, Keeps W w → keepUpon P w v ((execOp a.eval o).run P w)) ∨ (Region.wanted o (yielded ops a.tmps) = false ∧ v = undef)
theorem YieldsK.put_iff {o : Oper} (hs : ∀ cs b, o.op ≠ .select cs b) {a : Act} {dst : Option Tmp} {u v : Value} (h : ∀ d, dst = some d → d ∉ o.looksAt ops) : YieldsK P ops W o v (a.put dst u) ↔ YieldsK P ops W o v a := by
  unfold YieldsK
  rw [execOp_put o hs a dst u h, wanted_put o a dst u h]
def AllocsAs (P : Program) (o : Oper) (zs : List Value) : Prop :=
  o.guard = none ∧ ∃ T, ∀ a w, (execOp (Act.eval a) o).run P w = .ok (.value (ptrV w.heap.size)) (w.alloc (.cells zs.toArray T))
def upd (G : Nat → Nat) (i g : Nat) : Nat → Nat := fun k => if k = i then g else G k
theorem upd_comm {G : Nat → Nat} {i j g h : Nat} (hne : i ≠ j) : upd (upd G i g) j h = upd (upd G j h) i g := by
  funext k
  unfold upd
  by_cases h1 : k = j
  · rw [if_pos h1, if_neg (by omega)]; simp [h1]
  · rw [if_neg h1]; simp [h1]
def stepK (P : Program) (ops : Array Oper) (W : World) (A : Nat → Bool) (val : Nat → Value) (i : Nat) (a : Act) (G : Nat → Nat) (K : Act → (Nat → Nat) → Prop) : Prop :=
  ∃ o, ops[i]? = some o ∧ ((A i = true ∧ ∀ g, K (a.put o.dst (ptrV g)) (upd G i g)) ∨ (A i = false ∧ YieldsK P ops W o (val i) a ∧ K (a.put o.dst (val i)) G))
theorem stepK_mono {i : Nat} {a : Act} {G : Nat → Nat} {K K' : Act → (Nat → Nat) → Prop} (h : ∀ a G, K a G → K' a G) (hh : stepK P ops W A val i a G K) : stepK P ops W A val i a G K' := by
  obtain ⟨o, ho, ⟨h1, h2⟩ | ⟨h1, h2, h3⟩⟩ := hh
  · exact ⟨o, ho, .inl ⟨h1, fun g => h _ _ (h2 g)⟩⟩
  · exact ⟨o, ho, .inr ⟨h1, h2, h _ _ h3⟩⟩
theorem stepK_ex {i : Nat} {a : Act} {G : Nat → Nat} {K : Act → (Nat → Nat) → Prop} (hh : stepK P ops W A val i a G K) : ∃ a' G', K a' G' := by
  obtain ⟨o, ho, ⟨h1, h2⟩ | ⟨h1, h2, h3⟩⟩ := hh
  · exact ⟨_, _, h2 0⟩
  · exact ⟨_, _, h3⟩
theorem stepK_swap {i j : Nat} {oi oj : Oper} (hi : ops[i]? = some oi) (hj : ops[j]? = some oj) (hne : i ≠ j) (hap : oi.apart ops oj = true) (hsi : ∀ cs b, oi.op ≠ .select cs b) (hsj : ∀ cs b, oj.op ≠ .select cs b)
    {a : Act} {G : Nat → Nat} {K : Act → (Nat → Nat) → Prop} (h : stepK P ops W A val i a G (fun a' G' => stepK P ops W A val j a' G' K)) : stepK P ops W A val j a G (fun a' G' => stepK P ops W A val i a' G' K) := by
  obtain ⟨h1, h2, h3⟩ := Oper.apart_spec hap
  have h2' : ∀ d, oj.dst = some d → oi.dst ≠ some d := fun d hd he => h2 d he hd
  obtain ⟨o, ho, h⟩ := h
  obtain rfl : o = oi := by rw [hi] at ho; exact (Option.some.inj ho).symm
  refine ⟨oj, hj, ?_⟩
  rcases h with ⟨ha, h⟩ | ⟨ha, hy, o', ho', h⟩
  · by_cases hA : A j = true
    · refine .inl ⟨hA, fun g' => ⟨o, hi, .inl ⟨ha, fun g => ?_⟩⟩⟩
      obtain ⟨o', ho', h⟩ := h g
      obtain rfl : o' = oj := by rw [hj] at ho'; exact (Option.some.inj ho').symm
      rcases h with ⟨_, h⟩ | ⟨hb, _⟩
      · rw [Act.put_comm a _ _ h2', upd_comm (Ne.symm hne)]; exact h g'
      · rw [hA] at hb; cases hb
    · have hA' : A j = false := by simpa using hA
      have key : ∀ g, YieldsK P ops W oj (val j) a ∧ K ((a.put o.dst (ptrV g)).put oj.dst (val j)) (upd G i g) := fun g => by
        obtain ⟨o', ho', h⟩ := h g
        obtain rfl : o' = oj := by rw [hj] at ho'; exact (Option.some.inj ho').symm
        rcases h with ⟨hb, _⟩ | ⟨_, hy, h⟩
        · rw [hA'] at hb; cases hb
        · exact ⟨(YieldsK.put_iff hsj h1).1 hy, h⟩
      refine .inr ⟨hA', (key 0).1, o, hi, .inl ⟨ha, fun g => ?_⟩⟩
      rw [Act.put_comm a _ _ h2']; exact (key g).2
  · obtain rfl : o' = oj := by rw [hj] at ho'; exact (Option.some.inj ho').symm
    rcases h with ⟨hA, h⟩ | ⟨hA, hyj, h⟩
    · refine .inl ⟨hA, fun g' => ⟨o, hi, .inr ⟨ha, (YieldsK.put_iff hsi h3).2 hy, ?_⟩⟩⟩
      rw [Act.put_comm a _ _ h2']; exact h g'
    · refine .inr ⟨hA, (YieldsK.put_iff hsj h1).1 hyj, o, hi, .inr ⟨ha, (YieldsK.put_iff hsi h3).2 hy, ?_⟩⟩
      rw [Act.put_comm a _ _ h2']; exact h
def wpAnyK (P : Program) (md : Region.Mode) (ops : Array Oper) (W : World) (A : Nat → Bool) (val : Nat → Value) (n : Nat) (L : Array Bool → Act → (Nat → Nat) → Prop) : Nat → Array Bool → Act → (Nat → Nat) → Prop
  | 0, listed, a, G => L listed a G
  | f + 1, listed, a, G => Region.ready md ops listed ≠ [] ∧ ∀ i ∈ Region.ready md ops listed, i < n ∧ stepK P ops W A val i a G (fun a' G' => wpAnyK P md ops W A val n L f (listed.setIfInBounds i true) a' G')
/-- the new blocks that were laid -/
def AOk (A : Nat → Bool) (zs : Nat → List Value) (W : World) (listed : Array Bool) (G : Nat → Nat) (w : World) : Prop :=
  ∀ i, A i = true → listed.getD i false = true → W.heap.size ≤ G i ∧ G i < w.heap.size ∧ Row w (G i) 0 (zs i) ∧ ∀ j, A j = true → listed.getD j false = true → j ≠ i → G j ≠ G i
theorem AOk.keeps {listed : Array Bool} {G : Nat → Nat} {w w' : World} (h : AOk A zs W listed G w) (hk : Keeps w w') : AOk A zs W listed G w' := fun i hA hl =>
  ⟨(h i hA hl).1, Nat.lt_of_lt_of_le (h i hA hl).2.1 hk.size, (h i hA hl).2.2.1.keeps hk, (h i hA hl).2.2.2⟩
theorem getD_set_false {listed : Array Bool} {i k : Nat} (h : k ≠ i) : (listed.setIfInBounds i true).getD k false = listed.getD k false := getD_set_ne false (Ne.symm h)
theorem AOk.listed {listed : Array Bool} {G : Nat → Nat} {w : World} {i : Nat} (h : AOk A zs W listed G w) (hi : A i = false) : AOk A zs W (listed.setIfInBounds i true) G w := fun k hA hl => by
  have e : ∀ j, A j = true → (listed.setIfInBounds i true).getD j false = true → listed.getD j false = true := fun j hj hl => by
    rwa [getD_set_false (fun e => by rw [e, hi] at hj; cases hj)] at hl
  have := h k hA (e k hA hl)
  exact ⟨this.1, this.2.1, this.2.2.1, fun j hj hlj => this.2.2.2 j hj (e j hj hlj)⟩
theorem AOk.alloc {listed : Array Bool} {G : Nat → Nat} {w : World} {i : Nat} {T : TypeId} (h : AOk A zs W listed G w) (hw : Keeps W w) : AOk A zs W (listed.setIfInBounds i true) (upd G i w.heap.size) (w.alloc (.cells (zs i).toArray T)) := fun k hA hl => by
  have hsz : (w.alloc (.cells (zs i).toArray T)).heap.size = w.heap.size + 1 := by simp
  by_cases hk : k = i
  · subst hk
    have e : upd G k w.heap.size k = w.heap.size := by unfold upd; rw [if_pos rfl]
    rw [e]
    refine ⟨hw.size, by omega, Row.new _ _ _ (by simp), fun j hj hlj hne => ?_⟩
    rw [getD_set_false hne] at hlj
    have := (h j hj hlj).2.1
    unfold upd
    rw [if_neg hne]; omega
  · rw [getD_set_false hk] at hl
    have e : upd G i w.heap.size k = G k := by unfold upd; rw [if_neg hk]
    rw [e]
    have h1 := h k hA hl
    refine ⟨h1.1, by omega, h1.2.2.1.alloc _, fun j hj hlj hne => ?_⟩
    by_cases hji : j = i
    · subst hji
      have e2 : upd G j w.heap.size j = w.heap.size := by unfold upd; rw [if_pos rfl]
      rw [e2]; omega
    · rw [getD_set_false hji] at hlj
      have e2 : upd G i w.heap.size j = G j := by unfold upd; rw [if_neg hji]
      rw [e2]; exact h1.2.2.2 j hj hlj hne
theorem wpAny_of_K {Q : Exit → Act → World → Prop} {g : Nat} (hal : ∀ i o, A i = true → ops[i]? = some o → AllocsAs P o (zs i))
    (hL : ∀ listed a G w, Keeps W w → AOk A zs W listed G w → L listed a G → wpAny P md ops Q g listed a w) :
    ∀ (f : Nat) (listed : Array Bool) (a : Act) (G : Nat → Nat) (w : World), Keeps W w → AOk A zs W listed G w → wpAnyK P md ops W A val n L f listed a G → wpAny P md ops Q (f + g) listed a w
  | 0, listed, a, G, w, hw, hA, h => by rw [Nat.zero_add]; exact hL _ _ _ _ hw hA h
  | f + 1, listed, a, G, w, hw, hA, h => by
    rw [show f + 1 + g = (f + g) + 1 by omega]
    refine ⟨fun h0 => absurd h0 h.1, fun i hi => ?_⟩
    obtain ⟨o, ho, h2⟩ := (h.2 i hi).2
    unfold wpOp
    simp only [ho]
    rcases h2 with ⟨ha, h2⟩ | ⟨ha, hy, h2⟩
    · obtain ⟨hg, T, hx⟩ := hal i o ha ho
      have hwt : Region.wanted o (yielded ops a.tmps) = true := by unfold Region.wanted; rw [hg]
      rw [if_pos hwt]
      refine .inl ?_
      unfold Oper.wp
      rw [hx a w]
      exact wpAny_of_K hal hL f _ _ _ _ (nm_keeps_alloc hw _) (hA.alloc hw) (h2 w.heap.size)
    · rcases hy with ⟨hwt, hy⟩ | ⟨hwt, hy⟩
      · rw [if_pos hwt]
        refine .inl ?_
        have h3 := hy w hw
        unfold Oper.wp
        generalize (execOp a.eval o).run P w = r at *
        cases r with
        | ok nx w' =>
          cases nx <;> simp only [keepUpon] at h3 <;> simp only [Oper.upon]
          case value u =>
            obtain ⟨rfl, rfl⟩ := h3
            exact wpAny_of_K hal hL f _ _ _ _ hw (hA.listed ha) h2
          case skip =>
            obtain ⟨rfl, hv⟩ := h3
            rw [hv] at h2
            exact wpAny_of_K hal hL f _ _ _ _ hw (hA.listed ha) h2
          case enter fn args =>
            obtain ⟨rfl, hc⟩ := h3
            exact hc.mono fun e w'' ⟨he, hk⟩ => by subst he; exact wpAny_of_K hal hL f _ _ _ _ (hw.trans hk) ((hA.listed ha).keeps hk) h2
        | halt x w' => simp only [keepUpon] at h3
      · rw [if_neg (by rw [hwt]; exact Bool.false_ne_true)]
        rw [hy] at h2
        exact wpAny_of_K hal hL f _ _ _ _ hw (hA.listed ha) h2
theorem wpAnyK_first {i : Nat} {oi : Oper} (hi : ops[i]? = some oi) (hsel : ∀ (j : Nat) (o : Oper) cs b, ops[j]? = some o → o.op ≠ .select cs b)
    (hs : Region.sinkB md ops n = true) (hc : Region.chainB md ops n = true) (hn : n < ops.size) (hin : i < n) (hdone : ∀ listed a G, L listed a G → ∀ j ∈ Region.ready md ops listed, n ≤ j) :
    ∀ (f : Nat) (listed : Array Bool) (a : Act) (G : Nat → Nat), HeadInv md ops n listed →
      (∀ j oj, ops[j]? = some oj → j ≠ i → listed.getD j true = false → (∀ e ∈ oj.after, Region.binds md e = true → e.on ≠ i) → oi.apart ops oj = true) →
      i ∈ Region.ready md ops listed → stepK P ops W A val i a G (fun a' G' => wpAnyK P md ops W A val n L f (listed.setIfInBounds i true) a' G') → wpAnyK P md ops W A val n L (f + 1) listed a G := by
  intro f
  induction f with
  | zero =>
    intro listed a G inv _ hr H
    have hun := (mem_ready.1 hr).1
    refine ⟨fun h => (by rw [h] at hr; cases hr), fun j hj => ?_⟩
    have hjn : j < n := by
      rcases Nat.lt_or_ge j n with h | h
      · exact h
      · exact absurd hj (tail_waits hs hc hn inv _ i rfl hin hun j h)
    refine ⟨hjn, ?_⟩
    by_cases hji : j = i
    · subst hji; exact H
    · obtain ⟨a', G', hL⟩ := stepK_ex H
      have := hdone _ _ _ hL j (ready_mono hj hji)
      omega
  | succ f ih =>
    intro listed a G inv hfree hr H
    have hun := (mem_ready.1 hr).1
    refine ⟨fun h => (by rw [h] at hr; cases hr), fun j hj => ?_⟩
    have hjn : j < n := by
      rcases Nat.lt_or_ge j n with h | h
      · exact h
      · exact absurd hj (tail_waits hs hc hn inv _ i rfl hin hun j h)
    refine ⟨hjn, ?_⟩
    by_cases hji : j = i
    · subst hji; exact H
    · obtain ⟨hjun, oj, hoj, hall⟩ := mem_ready.1 hj
      have hnot : ∀ e ∈ oj.after, Region.binds md e = true → e.on ≠ i := fun e he hb heq => by
        have h1 := hall e he hb
        rw [heq, getD_both hun] at h1
        cases h1
      have h1 := stepK_mono (fun a' G' h => (h.2 j (ready_mono hj hji)).2) H
      have h2 := stepK_swap hi hoj (Ne.symm hji) (hfree j oj hoj hji hjun hnot) (fun cs b => hsel i oi cs b hi) (fun cs b => hsel j oj cs b hoj) h1
      have hfree' : ∀ k ok, ops[k]? = some ok → k ≠ i → (listed.setIfInBounds j true).getD k true = false →
          (∀ e ∈ ok.after, Region.binds md e = true → e.on ≠ i) → oi.apart ops ok = true := fun k ok hk hki hun hno => by
        refine hfree k ok hk hki ?_ hno
        by_cases hjk : j = k
        · subst hjk; exact hjun
        · rw [getD_set_ne true hjk] at hun; exact hun
      refine stepK_mono (fun a' G' h3 => ih (listed.setIfInBounds j true) a' G' (inv.set hj hjn) hfree' (ready_mono hr (Ne.symm hji)) ?_) h2
      rw [Array.setIfInBounds_comm _ _ hji]
      exact h3
/-- an order of the head in which each operation may be taken first -/
def permB (md : Region.Mode) (ops : Array Oper) (n : Nat) (As : List Nat) : List Nat → Array Bool → Bool
  | [], listed => Region.seqB md ops (ops.size - n) n listed && As.all (fun i => listed.getD i false)
  | i :: π, listed => decide (i < n) && (Region.ready md ops listed).contains i && Region.free md ops listed i && permB md ops n As π (listed.setIfInBounds i true)
def runK (P : Program) (ops : Array Oper) (W : World) (A : Nat → Bool) (val : Nat → Value) (Lq : Act → (Nat → Nat) → Prop) : List Nat → Act → (Nat → Nat) → Prop
  | [], a, G => Lq a G
  | i :: π, a, G => stepK P ops W A val i a G (fun a' G' => runK P ops W A val Lq π a' G')
theorem wpAnyK_perm {Lq : Act → (Nat → Nat) → Prop} {As : List Nat} (hsel : Region.noSelect ops = true) (hs : Region.sinkB md ops n = true) (hc : Region.chainB md ops n = true) (hn : n < ops.size) :
    ∀ (π : List Nat) (listed : Array Bool) (a : Act) (G : Nat → Nat), HeadInv md ops n listed → permB md ops n As π listed = true → runK P ops W A val Lq π a G →
      wpAnyK P md ops W A val n (fun listed' a' G' => (Region.seqB md ops (ops.size - n) n listed' = true ∧ As.all (fun i => listed'.getD i false) = true) ∧ Lq a' G') π.length listed a G
  | [], listed, a, G, inv, hB, h => ⟨by simpa [permB] using hB, h⟩
  | i :: π, listed, a, G, inv, hB, h => by
    simp only [permB, Bool.and_eq_true, decide_eq_true_eq] at hB
    obtain ⟨⟨⟨hin, hr⟩, hf⟩, hB'⟩ := hB
    have hr' : i ∈ Region.ready md ops listed := by simpa using hr
    obtain ⟨o, ho, h2⟩ := h
    exact wpAnyK_first ho (Region.noSelect_spec hsel) hs hc hn hin (fun listed' a' G' hL => seqB_ready hL.1.1) π.length listed a G inv (Region.free_spec ho hf) hr'
      (stepK_mono (fun a' G' h3 => wpAnyK_perm hsel hs hc hn π _ a' G' (inv.set hr' hin) hB' h3) ⟨o, ho, h2⟩)
/-- the walk that is typed: the operations of π, one after the other -/
def wpKeep (P : Program) (ops : Array Oper) (W : World) (Lk : Act → Prop) : List Nat → Act → Prop
  | [], a => Lk a
  | i :: π, a => ∃ o v, ops[i]? = some o ∧ YieldsK P ops W o v a ∧ wpKeep P ops W Lk π (a.put o.dst v)
theorem runK_congr {Lq : Act → (Nat → Nat) → Prop} {val' : Nat → Value} : ∀ (π : List Nat) (a : Act) (G : Nat → Nat), (∀ i ∈ π, val i = val' i) → runK P ops W A val Lq π a G → runK P ops W A val' Lq π a G
  | [], _, _, _, h => h
  | i :: π, a, G, he, h => by
    obtain ⟨o, ho, ⟨h1, h2⟩ | ⟨h1, h2, h3⟩⟩ := h
    · exact ⟨o, ho, .inl ⟨h1, fun g => runK_congr π _ _ (fun j hj => he j (by simp [hj])) (h2 g)⟩⟩
    · rw [he i (by simp)] at h2 h3
      exact ⟨o, ho, .inr ⟨h1, h2, runK_congr π _ _ (fun j hj => he j (by simp [hj])) h3⟩⟩
theorem runK_mono {Lq Lq' : Act → (Nat → Nat) → Prop} : ∀ (π : List Nat) (a : Act) (G : Nat → Nat), (∀ a G, Lq a G → Lq' a G) → runK P ops W A val Lq π a G → runK P ops W A val Lq' π a G
  | [], _, _, hm, h => hm _ _ h
  | _ :: π, _, _, hm, h => stepK_mono (fun a' G' h => runK_mono π a' G' hm h) h
theorem run_of_keep {Lk : Act → Prop} : ∀ (π : List Nat) (a : Act), wpKeep P ops W Lk π a → π.Nodup → (∀ i ∈ π, A i = false) → ∃ val : Nat → Value, ∀ (F : Act → Act) (G : Nat → Nat),
      (∀ i ∈ π, ∀ o, ops[i]? = some o → (∀ a v, YieldsK P ops W o v a → YieldsK P ops W o v (F a)) ∧ (∀ a v, F (a.put o.dst v) = (F a).put o.dst v)) →
      runK P ops W A val (fun a' G' => G' = G ∧ ∃ a'', Lk a'' ∧ a' = F a'') π (F a) G
  | [], a, h, _, _ => ⟨fun _ => undef, fun F G _ => ⟨rfl, a, h, rfl⟩⟩
  | i :: π, a, h, hnd, hA => by
    obtain ⟨o, v, ho, hy, h⟩ := h
    rw [List.nodup_cons] at hnd
    obtain ⟨val, hv⟩ := run_of_keep π _ h hnd.2 (fun j hj => hA j (by simp [hj]))
    refine ⟨fun k => if k = i then v else val k, fun F G hF => ⟨o, ho, .inr ⟨hA i (by simp), ?_, ?_⟩⟩⟩
    · have e : (fun k => if k = i then v else val k) i = v := if_pos rfl
      rw [e]; exact (hF i (by simp) o ho).1 a v hy
    · have e : (fun k => if k = i then v else val k) i = v := if_pos rfl
      rw [e, ← (hF i (by simp) o ho).2 a v]
      refine runK_congr π _ _ (fun j hj => ?_) (hv F G (fun j hj => hF j (by simp [hj])))
      exact (if_neg (fun e => hnd.1 (by rw [← e]; exact hj))).symm
def dstAt (ops : Array Oper) (i : Nat) : Option Tmp := (ops[i]?).bind (·.dst)
def putsA (ops : Array Oper) (G : Nat → Nat) : List Nat → Act → Act
  | [], a => a
  | i :: As, a => putsA ops G As (a.put (dstAt ops i) (ptrV (G i)))
theorem run_allocs {Lq : Act → (Nat → Nat) → Prop} {π : List Nat} : ∀ (As : List Nat) (a : Act) (G : Nat → Nat), As.Nodup → (∀ i ∈ As, A i = true ∧ ∃ o, ops[i]? = some o) → (∀ G', runK P ops W A val Lq π (putsA ops G' As a) G') → runK P ops W A val Lq (As ++ π) a G
  | As, a, G, hnd, hA, h => by
    have key : ∀ (As : List Nat) (a : Act) (G : Nat → Nat), As.Nodup → (∀ i ∈ As, A i = true ∧ ∃ o, ops[i]? = some o) → (∀ G', (∀ k, k ∉ As → G' k = G k) → runK P ops W A val Lq π (putsA ops G' As a) G') → runK P ops W A val Lq (As ++ π) a G := by
      intro As
      induction As with
      | nil => intro a G _ _ h; exact h G (fun _ _ => rfl)
      | cons i As ih =>
        intro a G hnd hA h
        rw [List.nodup_cons] at hnd
        obtain ⟨hAi, o, ho⟩ := hA i (by simp)
        refine ⟨o, ho, .inl ⟨hAi, fun g => ih _ _ hnd.2 (fun j hj => hA j (by simp [hj])) (fun G' hG => ?_)⟩⟩
        have e : G' i = g := by rw [hG i hnd.1]; unfold upd; rw [if_pos rfl]
        have := h G' (fun k hk => by
          rw [hG k (fun hk' => hk (by simp [hk']))]
          unfold upd
          rw [if_neg (fun e => hk (by simp [e]))])
        rw [putsA, e] at this
        have hd : dstAt ops i = o.dst := by unfold dstAt; rw [ho]; rfl
        rwa [hd] at this
    exact key As a G hnd hA (fun G' _ => h G')
def apB (ops : Array Oper) (As π : List Nat) : Bool := As.all fun k => π.all fun j => match ops[k]?, ops[j]? with
  | some ok, some oj => ok.apart ops oj
  | _, _ => false
def keepB (md : Region.Mode) (ops : Array Oper) (n : Nat) (As π : List Nat) : Bool :=
  Region.noSelect ops && decide (n < ops.size) && Region.sinkB md ops n && Region.chainB md ops n && permB md ops n As (As ++ π) (Array.replicate ops.size false) && apB ops As π && decide (As ++ π).Nodup && decide ((As ++ π).length = n)
theorem putsA_ok (hsel : ∀ (j : Nat) (o : Oper) cs b, ops[j]? = some o → o.op ≠ .select cs b) {π : List Nat} (G : Nat → Nat) : ∀ (As : List Nat), apB ops As π = true → ∀ i ∈ π, ∀ o, ops[i]? = some o → (∀ a v, YieldsK P ops W o v a → YieldsK P ops W o v (putsA ops G As a)) ∧ (∀ a v, putsA ops G As (a.put o.dst v) = (putsA ops G As a).put o.dst v)
  | [], _, _, _, _, _ => ⟨fun _ _ h => h, fun _ _ => rfl⟩
  | k :: As, h, i, hi, o, ho => by
    unfold apB at h
    rw [List.all_cons, Bool.and_eq_true] at h
    have ih := putsA_ok hsel G As h.2 i hi o ho
    have h1 := List.all_eq_true.1 h.1 i hi
    simp only [ho] at h1
    cases hk : ops[k]? with
    | none => simp [hk] at h1
    | some ok =>
      simp only [hk] at h1
      obtain ⟨a1, a2, a3⟩ := Oper.apart_spec h1
      have hd : dstAt ops k = ok.dst := by unfold dstAt; rw [hk]; rfl
      refine ⟨fun a v hy => ?_, fun a v => ?_⟩
      · rw [putsA, hd]
        exact ih.1 _ _ ((YieldsK.put_iff (hsel i o · · ho) a1).2 hy)
      · rw [putsA, putsA, hd, ← ih.2, Act.put_comm a _ _ (fun d h1 h2 => a2 d h2 h1)]
theorem wp_region_keep {id : Nat} {Q : Exit → Act → World → Prop} {a : Act} {w : World} {l : List Oper} (n : Nat) (As π : List Nat) (zs : Nat → List Value) (hm : P.follows .mixedOrders = true) (hB : keepB .any l.toArray n As π = true)
    (hal : ∀ i ∈ As, ∃ o, l.toArray[i]? = some o ∧ AllocsAs P o (zs i))
    (h : wpKeep P l.toArray w (fun a' => ∀ (G : Nat → Nat) w', Keeps w w' → (∀ i ∈ As, w.heap.size ≤ G i ∧ Row w' (G i) 0 (zs i) ∧ ∀ j ∈ As, j ≠ i → G j ≠ G i) → wpList P l.toArray Q (l.drop n) (putsA l.toArray G As a') w') π a) : (Code.region id l.toArray true).wp P Q a w := by
  simp only [keepB, Bool.and_eq_true, decide_eq_true_eq] at hB
  obtain ⟨⟨⟨⟨⟨⟨⟨hsel, hn⟩, hs⟩, hc⟩, hp⟩, hap⟩, hnd⟩, hlen⟩ := hB
  rw [List.nodup_append] at hnd
  have hdl : (l.drop n).length = l.toArray.size - n := by simp
  have inv0 : HeadInv .any l.toArray n (Array.replicate l.toArray.size false) :=
    ⟨by simp, fun j oj _ hl => (by rw [getD_replicate_false] at hl; cases hl), fun t _ ht => getD_in (by simpa using ht) (getD_replicate_false _ _)⟩
  have hAπ : ∀ i ∈ π, decide (i ∈ As) = false := fun i hi => decide_eq_false (fun h => hnd.2.2 i h i hi rfl)
  obtain ⟨val, hv⟩ := run_of_keep (A := fun i => decide (i ∈ As)) π a h hnd.2.1 hAπ
  have hrun := run_allocs (A := fun i => decide (i ∈ As)) (π := π) As a (fun _ => 0) hnd.1 (fun i hi => ⟨decide_eq_true hi, (hal i hi).imp fun o h => h.1⟩) (Lq := fun a' G' => ∃ a'', (∀ (G : Nat → Nat) w', Keeps w w' → (∀ i ∈ As, w.heap.size ≤ G i ∧ Row w' (G i) 0 (zs i) ∧ ∀ j ∈ As, j ≠ i → G j ≠ G i) → wpList P l.toArray Q (l.drop n) (putsA l.toArray G As a'') w') ∧ a' = putsA l.toArray G' As a'') (val := val) (fun G' => by
    have := hv (putsA l.toArray G' As) G' (putsA_ok (Region.noSelect_spec hsel) G' As hap)
    refine runK_mono π _ _ (fun a1 G1 h1 => ?_) this
    obtain ⟨rfl, a2, h2, h3⟩ := h1
    exact ⟨a2, h2, h3⟩)
  have H := wpAnyK_perm (md := .any) (As := As) hsel hs hc hn (As ++ π) _ a (fun _ => 0) inv0 hp hrun
  refine wp_region_any hm ?_
  have := wpAny_of_K (Q := Q) (zs := zs) (g := l.toArray.size - n) (fun i o hi ho => by
    obtain ⟨o', ho', h⟩ := hal i (of_decide_eq_true hi)
    obtain rfl : o = o' := by rw [ho] at ho'; exact Option.some.inj ho'
    exact h) (fun listed a' G' w' hw' hA hL => by
    obtain ⟨⟨h1, h2⟩, a2, h3, rfl⟩ := hL
    have hlist : ∀ i ∈ As, listed.getD i false = true := fun i hi => List.all_eq_true.1 h2 i hi
    have h4 := h3 G' w' hw' (fun i hi => by
      obtain ⟨b1, b2, b3, b4⟩ := hA i (decide_eq_true hi) (hlist i hi)
      exact ⟨b1, b3, fun j hj hne => b4 j (decide_eq_true hj) (hlist j hj) hne⟩)
    have := wpAny_of_seq (md := .any) (Q' := Q) (l.drop n) n listed (putsA l.toArray G' As a2) w' (fun j => by simp [List.getElem?_drop]) (by rw [hdl]; exact h1) h4
    rwa [hdl] at this) _ _ _ _ { w with drawn := w.drawn + 1 } (keeps_drew1 (Keeps.refl w)) (fun i _ hl => by rw [getD_replicate_false] at hl; cases hl) H
  rw [hlen, show n + (l.toArray.size - n) = l.toArray.size by omega] at this
  exact this
/-- the walk's steps -/
theorem keep_pure {Lk : Act → Prop} {i : Nat} {π : List Nat} {a : Act} {o : Oper} {v : Value} (ho : ops[i]? = some o) (hw : Region.wanted o (yielded ops a.tmps) = true) (hx : ∀ w, Keeps W w → (execOp a.eval o).run P w = .ok (.value v) w) (h : wpKeep P ops W Lk π (a.put o.dst v)) : wpKeep P ops W Lk (i :: π) a :=
  ⟨o, v, ho, .inl ⟨hw, fun w hk => by rw [hx w hk]; exact ⟨rfl, rfl⟩⟩, h⟩
theorem keep_call {Lk : Act → Prop} {i : Nat} {π : List Nat} {a : Act} {o : Oper} {f : FuncId} {args : Array Value} {v : Value} (ho : ops[i]? = some o) (hw : Region.wanted o (yielded ops a.tmps) = true) (hx : ∀ w, (execOp a.eval o).run P w = .ok (.enter f args) w)
    (hc : ∀ w, Keeps W w → Calls P f args w (fun e w' => e = .returned v ∧ Keeps w w')) (h : wpKeep P ops W Lk π (a.put o.dst v)) : wpKeep P ops W Lk (i :: π) a :=
  ⟨o, v, ho, .inl ⟨hw, fun w hk => by rw [hx w]; exact ⟨rfl, hc w hk⟩⟩, h⟩
theorem keep_nil {Lk : Act → Prop} {a : Act} (h : Lk a) : wpKeep P ops W Lk [] a := h
end
end Go.Proofs.Ytajipagpdphejaa
