/- A region that draws its order: reads, calls that keep all memory, and new blocks laid at any time: walked once; then its last operations in one forced order. No condition. -/
import Derived.Test.YtlofddoojkeakaaDoorGB0
namespace Go.Proofs.YtlofddoojkeakaaDoor
set_option linter.unusedVariables false
set_option linter.unusedSimpArgs false
open Go Go.RowKit
section
variable {P : Program} {ops : Array Oper} {md : Region.Mode} {W : World} {A : Nat → Bool} {zs : Nat → List Value} {St : Nat → Option (Nat × List Value)} {val : Nat → Value} {n : Nat} {L : Array Bool → Act → (Nat → Nat) → Prop}
def ptrV (g : Nat) : Value := .pointer (some ⟨g, 0, none⟩)
def keepUpon (P : Program) (w : World) (v : Value) : Result Next → Prop
  | .ok (.value u) w' => w' = w ∧ u = v
  | .ok .skip w' => w' = w ∧ v = undef
  | .ok (.enter f args) w' => w' = w ∧ Calls P f args w (fun e w'' => e = .returned v ∧ Keeps w w'')
  | _ => False
/-- in every world that keeps W an operation leaves v, and keeps memory -/
def YieldsK (P : Program) (ops : Array Oper) (W : World) (o : Oper) (v : Value) (a : Act) : Prop :=
  (Region.wanted o (yielded ops a.tmps) = true ∧ ∀ w, Keeps W w → keepUpon P w v ((execOp a.eval o).run P w)) ∨ (Region.wanted o (yielded ops a.tmps) = false ∧ v = undef)
theorem YieldsK.put_iff {o : Oper} (hs : ∀ cs b, o.op ≠ .select cs b) {a : Act} {dst : Option Tmp} {u v : Value} (h : ∀ d, dst = some d → d ∉ o.looksAt ops) : YieldsK P ops W o v (a.put dst u) ↔ YieldsK P ops W o v a := by
  unfold YieldsK
  rw [execOp_put o hs a dst u h, wanted_put o a dst u h]
def AllocsAs (P : Program) (o : Oper) (zs : List Value) : Prop :=
  o.guard = none ∧ ∃ T, ∀ a w, (execOp (Act.eval a) o).run P w = .ok (.value (ptrV w.heap.size)) (w.alloc (.cells zs.toArray T))
def upd (G : Nat → Nat) (i g : Nat) : Nat → Nat := fun k => if k = i then g else G k
theorem upd_comm {G : Nat → Nat} {i j g h : Nat} (hne : i ≠ j) : upd (upd G i g) j h = upd (upd G j h) i g := by
  funext k
  unfold upd
  by_cases h1 : k = j
  · rw [if_pos h1, if_neg (by omega)]; simp [h1]
  · rw [if_neg h1]; simp [h1]
/-- an operation that stores cs into the whole block g, in any world -/
def PutsK (P : Program) (ops : Array Oper) (o : Oper) (a : Act) (g : Nat) (cs : List Value) : Prop :=
  Region.wanted o (yielded ops a.tmps) = true ∧ ∀ w zs, Row w g 0 zs → cs.length = zs.length → ∃ w', (execOp a.eval o).run P w = .ok .skip w' ∧ Row w' g 0 cs ∧ Chg (· = g) w w'
theorem PutsK.put_iff {o : Oper} (hs : ∀ cs b, o.op ≠ .select cs b) {a : Act} {dst : Option Tmp} {u : Value} {g : Nat} {cs : List Value} (h : ∀ d, dst = some d → d ∉ o.looksAt ops) : PutsK P ops o (a.put dst u) g cs ↔ PutsK P ops o a g cs := by
  unfold PutsK
  rw [execOp_put o hs a dst u h, wanted_put o a dst u h]
/-- operation i, which lays no block, gives its value: it reads or calls, or it stores into a block that the region laid -/
def OkAt (P : Program) (ops : Array Oper) (W : World) (St : Nat → Option (Nat × List Value)) (val : Nat → Value) (i : Nat) (o : Oper) (a : Act) (G : Nat → Nat) : Prop :=
  (St i = none ∧ YieldsK P ops W o (val i) a) ∨ (∃ k cs, St i = some (k, cs) ∧ val i = undef ∧ PutsK P ops o a (G k) cs)
theorem OkAt.put_iff {i : Nat} {o : Oper} (hs : ∀ cs b, o.op ≠ .select cs b) {a : Act} {dst : Option Tmp} {u : Value} {G : Nat → Nat} (h : ∀ d, dst = some d → d ∉ o.looksAt ops) : OkAt P ops W St val i o (a.put dst u) G ↔ OkAt P ops W St val i o a G := by
  unfold OkAt
  rw [YieldsK.put_iff hs h]
  simp only [PutsK.put_iff hs h]
theorem OkAt.upd_iff {i j g : Nat} {o : Oper} {a : Act} {G : Nat → Nat} (h : ∀ cs, St i ≠ some (j, cs)) : OkAt P ops W St val i o a (upd G j g) ↔ OkAt P ops W St val i o a G := by
  unfold OkAt
  constructor
  · rintro (h1 | ⟨k, cs, h1, h2, h3⟩)
    · exact .inl h1
    · refine .inr ⟨k, cs, h1, h2, ?_⟩
      unfold upd at h3
      rwa [if_neg (fun e => h cs (by rw [h1, e]))] at h3
  · rintro (h1 | ⟨k, cs, h1, h2, h3⟩)
    · exact .inl h1
    · refine .inr ⟨k, cs, h1, h2, ?_⟩
      unfold upd
      rwa [if_neg (fun e => h cs (by rw [h1, e]))]
/-- a store looks at the block that it stores into -/
def StOk (ops : Array Oper) (A : Nat → Bool) (St : Nat → Option (Nat × List Value)) : Prop := ∀ i k cs, St i = some (k, cs) → A i = false ∧ A k = true ∧ (∀ o ok, ops[i]? = some o → ops[k]? = some ok → ∃ d, ok.dst = some d ∧ d ∈ o.looksAt ops) ∧ (∀ j cs', St j = some (k, cs') → j = i)
def stepK (P : Program) (ops : Array Oper) (W : World) (A : Nat → Bool) (St : Nat → Option (Nat × List Value)) (val : Nat → Value) (i : Nat) (a : Act) (G : Nat → Nat) (K : Act → (Nat → Nat) → Prop) : Prop :=
  ∃ o, ops[i]? = some o ∧ ((A i = true ∧ ∀ g, K (a.put o.dst (ptrV g)) (upd G i g)) ∨ (A i = false ∧ OkAt P ops W St val i o a G ∧ K (a.put o.dst (val i)) G))
theorem stepK_mono {i : Nat} {a : Act} {G : Nat → Nat} {K K' : Act → (Nat → Nat) → Prop} (h : ∀ a G, K a G → K' a G) (hh : stepK P ops W A St val i a G K) : stepK P ops W A St val i a G K' := by
  obtain ⟨o, ho, ⟨h1, h2⟩ | ⟨h1, h2, h3⟩⟩ := hh
  · exact ⟨o, ho, .inl ⟨h1, fun g => h _ _ (h2 g)⟩⟩
  · exact ⟨o, ho, .inr ⟨h1, h2, h _ _ h3⟩⟩
theorem stepK_ex {i : Nat} {a : Act} {G : Nat → Nat} {K : Act → (Nat → Nat) → Prop} (hh : stepK P ops W A St val i a G K) : ∃ a' G', K a' G' := by
  obtain ⟨o, ho, ⟨h1, h2⟩ | ⟨h1, h2, h3⟩⟩ := hh
  · exact ⟨_, _, h2 0⟩
  · exact ⟨_, _, h3⟩
theorem stepK_swap {i j : Nat} {oi oj : Oper} (hst : StOk ops A St) (hi : ops[i]? = some oi) (hj : ops[j]? = some oj) (hne : i ≠ j) (hap : oi.apart ops oj = true) (hsi : ∀ cs b, oi.op ≠ .select cs b) (hsj : ∀ cs b, oj.op ≠ .select cs b)
    {a : Act} {G : Nat → Nat} {K : Act → (Nat → Nat) → Prop} (h : stepK P ops W A St val i a G (fun a' G' => stepK P ops W A St val j a' G' K)) : stepK P ops W A St val j a G (fun a' G' => stepK P ops W A St val i a' G' K) := by
  obtain ⟨h1, h2, h3⟩ := Oper.apart_spec hap
  have h2' : ∀ d, oj.dst = some d → oi.dst ≠ some d := fun d hd he => h2 d he hd
  have st1 : ∀ cs, St j ≠ some (i, cs) := fun cs e => by
    obtain ⟨d, hd, hm⟩ := (hst j i cs e).2.2.1 oj oi hj hi
    exact h1 d hd hm
  have st2 : ∀ cs, St i ≠ some (j, cs) := fun cs e => by
    obtain ⟨d, hd, hm⟩ := (hst i j cs e).2.2.1 oi oj hi hj
    exact h3 d hd hm
  obtain ⟨o, ho, h⟩ := h
  obtain rfl : o = oi := by rw [hi] at ho; exact (Option.some.inj ho).symm
  refine ⟨oj, hj, ?_⟩
  rcases h with ⟨ha, h⟩ | ⟨ha, hy, o', ho', h⟩
  · by_cases hA : A j = true
    · refine .inl ⟨hA, fun g' => ⟨o, hi, .inl ⟨ha, fun g => ?_⟩⟩⟩
      obtain ⟨o', ho', h⟩ := h g
      obtain rfl : o' = oj := by rw [hj] at ho'; exact (Option.some.inj ho').symm
      rcases h with ⟨_, h⟩ | ⟨hb, _⟩
      · rw [Act.put_comm a _ _ h2', upd_comm (Ne.symm hne)]; exact h g'
      · rw [hA] at hb; cases hb
    · have hA' : A j = false := by simpa using hA
      have key : ∀ g, OkAt P ops W St val j oj a G ∧ K ((a.put o.dst (ptrV g)).put oj.dst (val j)) (upd G i g) := fun g => by
        obtain ⟨o', ho', h⟩ := h g
        obtain rfl : o' = oj := by rw [hj] at ho'; exact (Option.some.inj ho').symm
        rcases h with ⟨hb, _⟩ | ⟨_, hy, h⟩
        · rw [hA'] at hb; cases hb
        · exact ⟨(OkAt.upd_iff st1).1 ((OkAt.put_iff hsj h1).1 hy), h⟩
      refine .inr ⟨hA', (key 0).1, o, hi, .inl ⟨ha, fun g => ?_⟩⟩
      rw [Act.put_comm a _ _ h2']; exact (key g).2
  · obtain rfl : o' = oj := by rw [hj] at ho'; exact (Option.some.inj ho').symm
    rcases h with ⟨hA, h⟩ | ⟨hA, hyj, h⟩
    · refine .inl ⟨hA, fun g' => ⟨o, hi, .inr ⟨ha, (OkAt.put_iff hsi h3).2 ((OkAt.upd_iff st2).2 hy), ?_⟩⟩⟩
      rw [Act.put_comm a _ _ h2']; exact h g'
    · refine .inr ⟨hA, (OkAt.put_iff hsj h1).1 hyj, o, hi, .inr ⟨ha, (OkAt.put_iff hsi h3).2 hy, ?_⟩⟩
      rw [Act.put_comm a _ _ h2']; exact h
def wpAnyK (P : Program) (md : Region.Mode) (ops : Array Oper) (W : World) (A : Nat → Bool) (St : Nat → Option (Nat × List Value)) (val : Nat → Value) (n : Nat) (L : Array Bool → Act → (Nat → Nat) → Prop) : Nat → Array Bool → Act → (Nat → Nat) → Prop
  | 0, listed, a, G => L listed a G
  | f + 1, listed, a, G => Region.ready md ops listed ≠ [] ∧ ∀ i ∈ Region.ready md ops listed, i < n ∧ stepK P ops W A St val i a G (fun a' G' => wpAnyK P md ops W A St val n L f (listed.setIfInBounds i true) a' G')
/-- the new blocks that were laid: zeros, or what was stored into them -/
def Held (zs : Nat → List Value) (St : Nat → Option (Nat × List Value)) (listed : Array Bool) (i : Nat) (cs : List Value) : Prop :=
  cs.length = (zs i).length ∧ (∀ s c, listed.getD s false = true → St s = some (i, c) → cs = c) ∧ ((∀ s c, listed.getD s false = true → St s ≠ some (i, c)) → cs = zs i)
def AOk (A : Nat → Bool) (zs : Nat → List Value) (St : Nat → Option (Nat × List Value)) (W : World) (listed : Array Bool) (G : Nat → Nat) (w : World) : Prop :=
  ∀ i, A i = true → listed.getD i false = true → W.heap.size ≤ G i ∧ G i < w.heap.size ∧ (∃ cs, Held zs St listed i cs ∧ Row w (G i) 0 cs) ∧ ∀ j, A j = true → listed.getD j false = true → j ≠ i → G j ≠ G i
theorem AOk.keeps {listed : Array Bool} {G : Nat → Nat} {w w' : World} (h : AOk A zs St W listed G w) (hk : Keeps w w') : AOk A zs St W listed G w' := fun i hA hl =>
  ⟨(h i hA hl).1, Nat.lt_of_lt_of_le (h i hA hl).2.1 hk.size, (h i hA hl).2.2.1.imp fun _ h => ⟨h.1, h.2.keeps hk⟩, (h i hA hl).2.2.2⟩
theorem getD_set_false {listed : Array Bool} {i k : Nat} (h : k ≠ i) : (listed.setIfInBounds i true).getD k false = listed.getD k false := getD_set_ne false (Ne.symm h)
theorem Held.other {listed : Array Bool} {i s : Nat} {cs : List Value} (h : Held zs St listed i cs) (hs : ∀ c, St s ≠ some (i, c)) : Held zs St (listed.setIfInBounds s true) i cs := by
  refine ⟨h.1, fun t c hl ht => ?_, fun hn => h.2.2 fun t c hl => ?_⟩
  · have hne : t ≠ s := fun e => hs c (by rw [← e]; exact ht)
    rw [getD_set_false hne] at hl
    exact h.2.1 t c hl ht
  · intro ht
    have hne : t ≠ s := fun e => hs c (by rw [← e]; exact ht)
    exact hn t c (by rw [getD_set_false hne]; exact hl) ht
theorem AOk.listed {listed : Array Bool} {G : Nat → Nat} {w : World} {i : Nat} (h : AOk A zs St W listed G w) (hi : A i = false) (hs : St i = none) : AOk A zs St W (listed.setIfInBounds i true) G w := fun k hA hl => by
  have e : ∀ j, A j = true → (listed.setIfInBounds i true).getD j false = true → listed.getD j false = true := fun j hj hl => by
    rwa [getD_set_false (fun e => by rw [e, hi] at hj; cases hj)] at hl
  have := h k hA (e k hA hl)
  exact ⟨this.1, this.2.1, this.2.2.1.imp fun _ h => ⟨h.1.other (fun c => by rw [hs]; exact fun e => by cases e), h.2⟩, fun j hj hlj => this.2.2.2 j hj (e j hj hlj)⟩
theorem AOk.store {listed : Array Bool} {G : Nat → Nat} {w w' : World} {i k : Nat} {c : List Value} (h : AOk A zs St W listed G w) (hst : StOk ops A St) (hs : St i = some (k, c)) (hin : i < listed.size) (hk : listed.getD k false = true) (hlen : c.length = (zs k).length) (hr : Row w' (G k) 0 c) (hc : Chg (· = G k) w w') : AOk A zs St W (listed.setIfInBounds i true) G w' := fun t hA hl => by
  obtain ⟨hAi, hAk, _, huniq⟩ := hst i k c hs
  have e : ∀ j, A j = true → (listed.setIfInBounds i true).getD j false = true → listed.getD j false = true := fun j hj hl => by
    rwa [getD_set_false (fun e => by rw [e, hAi] at hj; cases hj)] at hl
  have h1 := h t hA (e t hA hl)
  refine ⟨h1.1, Nat.lt_of_lt_of_le h1.2.1 hc.size, ?_, fun j hj hlj => h1.2.2.2 j hj (e j hj hlj)⟩
  by_cases htk : t = k
  · subst htk
    refine ⟨c, ⟨hlen, fun s c' _ hs' => ?_, fun hn => absurd hs (hn i c (by simp [hin]))⟩, hr⟩
    have := huniq s c' hs'
    subst this
    rw [hs] at hs'
    exact (Prod.mk.inj (Option.some.inj hs')).2
  · obtain ⟨cs, h2, h3⟩ := h1.2.2.1
    exact ⟨cs, h2.other (fun c' e => htk (by rw [hs] at e; exact ((Prod.mk.inj (Option.some.inj e)).1).symm)), h3.chg hc (h1.2.2.2 k hAk hk (Ne.symm htk)).symm⟩
theorem AOk.alloc {listed : Array Bool} {G : Nat → Nat} {w : World} {i : Nat} {T : TypeId} (h : AOk A zs St W listed G w) (hst : StOk ops A St) (hin : ∀ s c, St s = some (i, c) → listed.getD s false = false) (hAi : A i = true) (hw : Keeps W w) : AOk A zs St W (listed.setIfInBounds i true) (upd G i w.heap.size) (w.alloc (.cells (zs i).toArray T)) := fun k hA hl => by
  have hsz : (w.alloc (.cells (zs i).toArray T)).heap.size = w.heap.size + 1 := by simp
  have hsi : ∀ k c, St i ≠ some (k, c) := fun k c e => by rw [(hst i k c e).1] at hAi; cases hAi
  by_cases hk : k = i
  · subst hk
    have e : upd G k w.heap.size k = w.heap.size := by unfold upd; rw [if_pos rfl]
    rw [e]
    refine ⟨hw.size, by omega, ⟨zs k, ⟨rfl, fun s c hl hs => ?_, fun _ => rfl⟩, Row.new _ _ _ (by simp)⟩, fun j hj hlj hne => ?_⟩
    · have hne : s ≠ k := fun e => hsi k c (by rw [← e]; rw [← e] at hs; exact hs)
      rw [getD_set_false hne, hin s c hs] at hl
      cases hl
    rw [getD_set_false hne] at hlj
    have := (h j hj hlj).2.1
    unfold upd
    rw [if_neg hne]; omega
  · rw [getD_set_false hk] at hl
    have e : upd G i w.heap.size k = G k := by unfold upd; rw [if_neg hk]
    rw [e]
    have h1 := h k hA hl
    refine ⟨h1.1, by omega, h1.2.2.1.imp fun _ h => ⟨h.1.other (hsi k), h.2.alloc _⟩, fun j hj hlj hne => ?_⟩
    by_cases hji : j = i
    · subst hji
      have e2 : upd G j w.heap.size j = w.heap.size := by unfold upd; rw [if_pos rfl]
      rw [e2]; omega
    · rw [getD_set_false hji] at hlj
      have e2 : upd G i w.heap.size j = G j := by unfold upd; rw [if_neg hji]
      rw [e2]; exact h1.2.2.2 j hj hlj hne
/-- a store waits for the block that it stores into -/
def StWaits (md : Region.Mode) (ops : Array Oper) (St : Nat → Option (Nat × List Value)) : Prop := ∀ s k c, St s = some (k, c) → ∀ o, ops[s]? = some o → ∃ e ∈ o.after, Region.binds md e = true ∧ e.on = k
theorem wpAny_of_K {Q : Exit → Act → World → Prop} {g : Nat} (hst : StOk ops A St) (hwt : StWaits md ops St) (hlen : ∀ s k c, St s = some (k, c) → c.length = (zs k).length) (hal : ∀ i o, A i = true → ops[i]? = some o → AllocsAs P o (zs i))
    (hL : ∀ listed a G w, Keeps W w → AOk A zs St W listed G w → L listed a G → wpAny P md ops Q g listed a w) :
    ∀ (f : Nat) (listed : Array Bool) (a : Act) (G : Nat → Nat) (w : World), listed.size = ops.size → (∀ s k c, St s = some (k, c) → listed.getD s false = true → listed.getD k false = true) → Keeps W w → AOk A zs St W listed G w → wpAnyK P md ops W A St val n L f listed a G → wpAny P md ops Q (f + g) listed a w
  | 0, listed, a, G, w, _, _, hw, hA, h => by rw [Nat.zero_add]; exact hL _ _ _ _ hw hA h
  | f + 1, listed, a, G, w, hsz, hcl, hw, hA, h => by
    rw [show f + 1 + g = (f + g) + 1 by omega]
    refine ⟨fun h0 => absurd h0 h.1, fun i hi => ?_⟩
    obtain ⟨o, ho, h2⟩ := (h.2 i hi).2
    have hsz' : (listed.setIfInBounds i true).size = ops.size := by simp [hsz]
    obtain ⟨hun, oi, hoi, hall⟩ := mem_ready.1 hi
    obtain rfl : o = oi := by rw [hoi] at ho; exact (Option.some.inj ho).symm
    have hinl : i < listed.size := by
      rw [hsz]
      rcases Nat.lt_or_ge i ops.size with h' | h'
      · exact h'
      · rw [Array.getElem?_eq_none h'] at ho; cases ho
    have hcl' : ∀ s k c, St s = some (k, c) → (listed.setIfInBounds i true).getD s false = true → (listed.setIfInBounds i true).getD k false = true := fun s k c hs hl => by
      by_cases hki : k = i
      · subst hki; simp [hinl]
      · rw [getD_set_false hki]
        by_cases hsi : s = i
        · subst hsi
          obtain ⟨e, he, hb, hk⟩ := hwt s k c hs o ho
          rw [← hk]; exact hall e he hb
        · rw [getD_set_false hsi] at hl
          exact hcl s k c hs hl
    unfold wpOp
    simp only [ho]
    rcases h2 with ⟨ha, h2⟩ | ⟨ha, hy | ⟨k, c, hs, hv, hp⟩, h2⟩
    · obtain ⟨hg, T, hx⟩ := hal i o ha ho
      have hwt' : Region.wanted o (yielded ops a.tmps) = true := by unfold Region.wanted; rw [hg]
      rw [if_pos hwt']
      refine .inl ?_
      unfold Oper.wp
      rw [hx a w]
      refine wpAny_of_K hst hwt hlen hal hL f _ _ _ _ hsz' hcl' (nm_keeps_alloc hw _) (hA.alloc hst (fun s c hs => ?_) ha hw) (h2 w.heap.size)
      cases hls : listed.getD s false with
      | false => rfl
      | true =>
        have := hcl s i c hs hls
        rw [getD_both hun] at this
        cases this
    · obtain ⟨hsn, hy⟩ := hy
      rcases hy with ⟨hwt', hy⟩ | ⟨hwt', hy⟩
      · rw [if_pos hwt']
        refine .inl ?_
        have h3 := hy w hw
        unfold Oper.wp
        generalize (execOp a.eval o).run P w = r at *
        cases r with
        | ok nx w' =>
          cases nx <;> simp only [keepUpon] at h3 <;> simp only [Oper.upon]
          case value u =>
            obtain ⟨rfl, rfl⟩ := h3
            exact wpAny_of_K hst hwt hlen hal hL f _ _ _ _ hsz' hcl' hw (hA.listed ha hsn) h2
          case skip =>
            obtain ⟨rfl, hv⟩ := h3
            rw [hv] at h2
            exact wpAny_of_K hst hwt hlen hal hL f _ _ _ _ hsz' hcl' hw (hA.listed ha hsn) h2
          case enter fn args =>
            obtain ⟨rfl, hc⟩ := h3
            exact hc.mono fun e w'' ⟨he, hk⟩ => by subst he; exact wpAny_of_K hst hwt hlen hal hL f _ _ _ _ hsz' hcl' (hw.trans hk) ((hA.listed ha hsn).keeps hk) h2
        | halt x w' => simp only [keepUpon] at h3
      · rw [if_neg (by rw [hwt']; exact Bool.false_ne_true)]
        rw [hy] at h2
        exact wpAny_of_K hst hwt hlen hal hL f _ _ _ _ hsz' hcl' hw (hA.listed ha hsn) h2
    · have hkl : listed.getD k false = true := by
        obtain ⟨e, he, hb, hk⟩ := hwt i k c hs o ho
        rw [← hk]; exact hall e he hb
      obtain ⟨b1, b2, ⟨cs, b3, b4⟩, b5⟩ := hA k (hst i k c hs).2.1 hkl
      obtain ⟨w', c1, c2, c3⟩ := hp.2 w cs b4 (by rw [hlen i k c hs, b3.1])
      rw [if_pos hp.1]
      refine .inl ?_
      unfold Oper.wp
      rw [c1]
      simp only [Oper.upon]
      rw [hv] at h2
      exact wpAny_of_K hst hwt hlen hal hL f _ _ _ _ hsz' hcl' (nm_keeps_chg hw c3 b1) (hA.store hst hs hinl hkl (hlen i k c hs) c2 c3) h2
theorem wpAnyK_first {i : Nat} {oi : Oper} (hst : StOk ops A St) (hi : ops[i]? = some oi) (hsel : ∀ (j : Nat) (o : Oper) cs b, ops[j]? = some o → o.op ≠ .select cs b)
    (hs : Region.sinkB md ops n = true) (hc : Region.chainB md ops n = true) (hn : n < ops.size) (hin : i < n) (hdone : ∀ listed a G, L listed a G → ∀ j ∈ Region.ready md ops listed, n ≤ j) :
    ∀ (f : Nat) (listed : Array Bool) (a : Act) (G : Nat → Nat), HeadInv md ops n listed →
      (∀ j oj, ops[j]? = some oj → j ≠ i → listed.getD j true = false → (∀ e ∈ oj.after, Region.binds md e = true → e.on ≠ i) → oi.apart ops oj = true) →
      i ∈ Region.ready md ops listed → stepK P ops W A St val i a G (fun a' G' => wpAnyK P md ops W A St val n L f (listed.setIfInBounds i true) a' G') → wpAnyK P md ops W A St val n L (f + 1) listed a G := by
  intro f
  induction f with
  | zero =>
    intro listed a G inv _ hr H
    have hun := (mem_ready.1 hr).1
    refine ⟨fun h => (by rw [h] at hr; cases hr), fun j hj => ?_⟩
    have hjn : j < n := by
      rcases Nat.lt_or_ge j n with h | h
      · exact h
      · exact absurd hj (tail_waits hs hc hn inv _ i rfl hin hun j h)
    refine ⟨hjn, ?_⟩
    by_cases hji : j = i
    · subst hji; exact H
    · obtain ⟨a', G', hL⟩ := stepK_ex H
      have := hdone _ _ _ hL j (ready_mono hj hji)
      omega
  | succ f ih =>
    intro listed a G inv hfree hr H
    have hun := (mem_ready.1 hr).1
    refine ⟨fun h => (by rw [h] at hr; cases hr), fun j hj => ?_⟩
    have hjn : j < n := by
      rcases Nat.lt_or_ge j n with h | h
      · exact h
      · exact absurd hj (tail_waits hs hc hn inv _ i rfl hin hun j h)
    refine ⟨hjn, ?_⟩
    by_cases hji : j = i
    · subst hji; exact H
    · obtain ⟨hjun, oj, hoj, hall⟩ := mem_ready.1 hj
      have hnot : ∀ e ∈ oj.after, Region.binds md e = true → e.on ≠ i := fun e he hb heq => by
        have h1 := hall e he hb
        rw [heq, getD_both hun] at h1
        cases h1
      have h1 := stepK_mono (fun a' G' h => (h.2 j (ready_mono hj hji)).2) H
      have h2 := stepK_swap hst hi hoj (Ne.symm hji) (hfree j oj hoj hji hjun hnot) (fun cs b => hsel i oi cs b hi) (fun cs b => hsel j oj cs b hoj) h1
      have hfree' : ∀ k ok, ops[k]? = some ok → k ≠ i → (listed.setIfInBounds j true).getD k true = false →
          (∀ e ∈ ok.after, Region.binds md e = true → e.on ≠ i) → oi.apart ops ok = true := fun k ok hk hki hun hno => by
        refine hfree k ok hk hki ?_ hno
        by_cases hjk : j = k
        · subst hjk; exact hjun
        · rw [getD_set_ne true hjk] at hun; exact hun
      refine stepK_mono (fun a' G' h3 => ih (listed.setIfInBounds j true) a' G' (inv.set hj hjn) hfree' (ready_mono hr (Ne.symm hji)) ?_) h2
      rw [Array.setIfInBounds_comm _ _ hji]
      exact h3
/-- an order of the head in which each operation may be taken first -/
def permB (md : Region.Mode) (ops : Array Oper) (n : Nat) (As : List Nat) : List Nat → Array Bool → Bool
  | [], listed => Region.seqB md ops (ops.size - n) n listed && As.all (fun i => listed.getD i false)
  | i :: π, listed => decide (i < n) && (Region.ready md ops listed).contains i && Region.free md ops listed i && permB md ops n As π (listed.setIfInBounds i true)
def runK (P : Program) (ops : Array Oper) (W : World) (A : Nat → Bool) (St : Nat → Option (Nat × List Value)) (val : Nat → Value) (Lq : Act → (Nat → Nat) → Prop) : List Nat → Act → (Nat → Nat) → Prop
  | [], a, G => Lq a G
  | i :: π, a, G => stepK P ops W A St val i a G (fun a' G' => runK P ops W A St val Lq π a' G')
theorem wpAnyK_perm {Lq : Act → (Nat → Nat) → Prop} {As : List Nat} (hst : StOk ops A St) (hsel : Region.noSelect ops = true) (hs : Region.sinkB md ops n = true) (hc : Region.chainB md ops n = true) (hn : n < ops.size) :
    ∀ (π : List Nat) (listed : Array Bool) (a : Act) (G : Nat → Nat), HeadInv md ops n listed → permB md ops n As π listed = true → runK P ops W A St val Lq π a G →
      wpAnyK P md ops W A St val n (fun listed' a' G' => (Region.seqB md ops (ops.size - n) n listed' = true ∧ As.all (fun i => listed'.getD i false) = true) ∧ Lq a' G') π.length listed a G
  | [], listed, a, G, inv, hB, h => ⟨by simpa [permB] using hB, h⟩
  | i :: π, listed, a, G, inv, hB, h => by
    simp only [permB, Bool.and_eq_true, decide_eq_true_eq] at hB
    obtain ⟨⟨⟨hin, hr⟩, hf⟩, hB'⟩ := hB
    have hr' : i ∈ Region.ready md ops listed := by simpa using hr
    obtain ⟨o, ho, h2⟩ := h
    exact wpAnyK_first hst ho (Region.noSelect_spec hsel) hs hc hn hin (fun listed' a' G' hL => seqB_ready hL.1.1) π.length listed a G inv (Region.free_spec ho hf) hr'
      (stepK_mono (fun a' G' h3 => wpAnyK_perm hst hsel hs hc hn π _ a' G' (inv.set hr' hin) hB' h3) ⟨o, ho, h2⟩)
/-- the walk that is typed: the operations of π, one after the other -/
def wpKeep (P : Program) (ops : Array Oper) (W : World) (Lk : Act → Prop) : List Nat → Act → Prop
  | [], a => Lk a
  | i :: π, a => ∃ o v, ops[i]? = some o ∧ YieldsK P ops W o v a ∧ wpKeep P ops W Lk π (a.put o.dst v)
theorem runK_congr {Lq : Act → (Nat → Nat) → Prop} {val' : Nat → Value} : ∀ (π : List Nat) (a : Act) (G : Nat → Nat), (∀ i ∈ π, val i = val' i) → runK P ops W A St val Lq π a G → runK P ops W A St val' Lq π a G
  | [], _, _, _, h => h
  | i :: π, a, G, he, h => by
    obtain ⟨o, ho, ⟨h1, h2⟩ | ⟨h1, h2, h3⟩⟩ := h
    · exact ⟨o, ho, .inl ⟨h1, fun g => runK_congr π _ _ (fun j hj => he j (by simp [hj])) (h2 g)⟩⟩
    · rw [he i (by simp)] at h3
      refine ⟨o, ho, .inr ⟨h1, ?_, runK_congr π _ _ (fun j hj => he j (by simp [hj])) h3⟩⟩
      unfold OkAt at h2 ⊢
      rwa [he i (by simp)] at h2
theorem runK_mono {Lq Lq' : Act → (Nat → Nat) → Prop} : ∀ (π : List Nat) (a : Act) (G : Nat → Nat), (∀ a G, Lq a G → Lq' a G) → runK P ops W A St val Lq π a G → runK P ops W A St val Lq' π a G
  | [], _, _, hm, h => hm _ _ h
  | _ :: π, _, _, hm, h => stepK_mono (fun a' G' h => runK_mono π a' G' hm h) h
theorem run_of_keep {Lk : Act → Prop} : ∀ (π : List Nat) (a : Act), wpKeep P ops W Lk π a → π.Nodup → (∀ i ∈ π, A i = false ∧ St i = none) → ∃ val : Nat → Value, (∀ j, j ∉ π → val j = undef) ∧ ∀ (F : Act → Act) (G : Nat → Nat),
      (∀ i ∈ π, ∀ o, ops[i]? = some o → (∀ a v, YieldsK P ops W o v a → YieldsK P ops W o v (F a)) ∧ (∀ a v, F (a.put o.dst v) = (F a).put o.dst v)) →
      runK P ops W A St val (fun a' G' => G' = G ∧ ∃ a'', Lk a'' ∧ a' = F a'') π (F a) G
  | [], a, h, _, _ => ⟨fun _ => undef, fun _ _ => rfl, fun F G _ => ⟨rfl, a, h, rfl⟩⟩
  | i :: π, a, h, hnd, hA => by
    obtain ⟨o, v, ho, hy, h⟩ := h
    rw [List.nodup_cons] at hnd
    obtain ⟨val, hu, hv⟩ := run_of_keep π _ h hnd.2 (fun j hj => hA j (by simp [hj]))
    refine ⟨fun k => if k = i then v else val k, fun j hj => by show (if j = i then v else val j) = undef; rw [if_neg (fun e => hj (by simp [e]))]; exact hu j (fun h => hj (by simp [h])), fun F G hF => ⟨o, ho, .inr ⟨(hA i (by simp)).1, .inl ⟨(hA i (by simp)).2, ?_⟩, ?_⟩⟩⟩
    · have e : (fun k => if k = i then v else val k) i = v := if_pos rfl
      rw [e]; exact (hF i (by simp) o ho).1 a v hy
    · have e : (fun k => if k = i then v else val k) i = v := if_pos rfl
      rw [e, ← (hF i (by simp) o ho).2 a v]
      refine runK_congr π _ _ (fun j hj => ?_) (hv F G (fun j hj => hF j (by simp [hj])))
      exact (if_neg (fun e => hnd.1 (by rw [← e]; exact hj))).symm
def dstAt (ops : Array Oper) (i : Nat) : Option Tmp := (ops[i]?).bind (·.dst)
def putsA (ops : Array Oper) (G : Nat → Nat) : List Nat → Act → Act
  | [], a => a
  | i :: As, a => putsA ops G As (a.put (dstAt ops i) (ptrV (G i)))
theorem run_allocs {Lq : Act → (Nat → Nat) → Prop} {π : List Nat} : ∀ (As : List Nat) (a : Act) (G : Nat → Nat), As.Nodup → (∀ i ∈ As, A i = true ∧ ∃ o, ops[i]? = some o) → (∀ G', runK P ops W A St val Lq π (putsA ops G' As a) G') → runK P ops W A St val Lq (As ++ π) a G
  | As, a, G, hnd, hA, h => by
    have key : ∀ (As : List Nat) (a : Act) (G : Nat → Nat), As.Nodup → (∀ i ∈ As, A i = true ∧ ∃ o, ops[i]? = some o) → (∀ G', (∀ k, k ∉ As → G' k = G k) → runK P ops W A St val Lq π (putsA ops G' As a) G') → runK P ops W A St val Lq (As ++ π) a G := by
      intro As
      induction As with
      | nil => intro a G _ _ h; exact h G (fun _ _ => rfl)
      | cons i As ih =>
        intro a G hnd hA h
        rw [List.nodup_cons] at hnd
        obtain ⟨hAi, o, ho⟩ := hA i (by simp)
        refine ⟨o, ho, .inl ⟨hAi, fun g => ih _ _ hnd.2 (fun j hj => hA j (by simp [hj])) (fun G' hG => ?_)⟩⟩
        have e : G' i = g := by rw [hG i hnd.1]; unfold upd; rw [if_pos rfl]
        have := h G' (fun k hk => by
          rw [hG k (fun hk' => hk (by simp [hk']))]
          unfold upd
          rw [if_neg (fun e => hk (by simp [e]))])
        rw [putsA, e] at this
        have hd : dstAt ops i = o.dst := by unfold dstAt; rw [ho]; rfl
        rwa [hd] at this
    exact key As a G hnd hA (fun G' _ => h G')
def apB (ops : Array Oper) (As π : List Nat) : Bool := As.all fun k => π.all fun j => match ops[k]?, ops[j]? with
  | some ok, some oj => ok.apart ops oj
  | _, _ => false
def keepB (md : Region.Mode) (ops : Array Oper) (n : Nat) (As π ρ : List Nat) : Bool :=
  Region.noSelect ops && decide (n < ops.size) && Region.sinkB md ops n && Region.chainB md ops n && permB md ops n (As ++ (π ++ ρ)) (As ++ (π ++ ρ)) (Array.replicate ops.size false) && apB ops As π && decide (As ++ (π ++ ρ)).Nodup && decide ((As ++ (π ++ ρ)).length = n)
theorem putsA_ok (hsel : ∀ (j : Nat) (o : Oper) cs b, ops[j]? = some o → o.op ≠ .select cs b) {π : List Nat} (G : Nat → Nat) : ∀ (As : List Nat), apB ops As π = true → ∀ i ∈ π, ∀ o, ops[i]? = some o → (∀ a v, YieldsK P ops W o v a → YieldsK P ops W o v (putsA ops G As a)) ∧ (∀ a v, putsA ops G As (a.put o.dst v) = (putsA ops G As a).put o.dst v)
  | [], _, _, _, _, _ => ⟨fun _ _ h => h, fun _ _ => rfl⟩
  | k :: As, h, i, hi, o, ho => by
    unfold apB at h
    rw [List.all_cons, Bool.and_eq_true] at h
    have ih := putsA_ok hsel G As h.2 i hi o ho
    have h1 := List.all_eq_true.1 h.1 i hi
    simp only [ho] at h1
    cases hk : ops[k]? with
    | none => simp [hk] at h1
    | some ok =>
      simp only [hk] at h1
      obtain ⟨a1, a2, a3⟩ := Oper.apart_spec h1
      have hd : dstAt ops k = ok.dst := by unfold dstAt; rw [hk]; rfl
      refine ⟨fun a v hy => ?_, fun a v => ?_⟩
      · rw [putsA, hd]
        exact ih.1 _ _ ((YieldsK.put_iff (hsel i o · · ho) a1).2 hy)
      · rw [putsA, putsA, hd, ← ih.2, Act.put_comm a _ _ (fun d h1 h2 => a2 d h2 h1)]
theorem runK_append {Lq : Act → (Nat → Nat) → Prop} {ρ : List Nat} : ∀ (π : List Nat) (a : Act) (G : Nat → Nat), runK P ops W A St val (fun a' G' => runK P ops W A St val Lq ρ a' G') π a G → runK P ops W A St val Lq (π ++ ρ) a G
  | [], _, _, h => h
  | _ :: π, _, _, h => stepK_mono (fun a' G' h => runK_append π a' G' h) h
theorem run_stores {Lq : Act → (Nat → Nat) → Prop} : ∀ (ρ : List Nat) (a : Act) (G : Nat → Nat), (∀ i ∈ ρ, A i = false ∧ val i = undef ∧ ∃ o k cs, ops[i]? = some o ∧ o.dst = none ∧ St i = some (k, cs) ∧ PutsK P ops o a (G k) cs) → Lq a G → runK P ops W A St val Lq ρ a G
  | [], _, _, _, h => h
  | i :: ρ, a, G, hA, h => by
    obtain ⟨h1, h2, o, k, cs, ho, hd, hs, hp⟩ := hA i (by simp)
    refine ⟨o, ho, .inr ⟨h1, .inr ⟨k, cs, hs, h2, hp⟩, ?_⟩⟩
    rw [hd]
    exact run_stores ρ a G (fun j hj => hA j (by simp [hj])) h
/-- the stores of a region's head: (the store, the block's operation) -/
def stOf (Ss : List (Nat × Nat)) (fs : Nat → List Value) (i : Nat) : Option (Nat × List Value) := (Ss.find? (fun p => p.1 == i)).map fun p => (p.2, fs p.2)
def lookB (ops : Array Oper) (Ss : List (Nat × Nat)) (As : List Nat) : Bool := Ss.all fun p => As.contains p.2 && !As.contains p.1 && match ops[p.1]?, ops[p.2]? with
  | some o, some ok => (match ok.dst with | some d => (o.looksAt ops).contains d | none => false) && (o.dst == none) && o.after.any (fun e => Region.binds .any e && e.on == p.2)
  | _, _ => false
/-- what lies in a block behind the head -/
def finZ (Ss : List (Nat × Nat)) (zs fs : Nat → List Value) (i : Nat) : List Value := if (Ss.map (·.2)).contains i then fs i else zs i
theorem wp_region_st {id : Nat} {Q : Exit → Act → World → Prop} {a : Act} {w : World} {l : List Oper} (n : Nat) (As π : List Nat) (Ss : List (Nat × Nat)) (zs fs : Nat → List Value) (hm : P.follows .mixedOrders = true) (hB : keepB .any l.toArray n As π (Ss.map (·.1)) = true) (hSs : lookB l.toArray Ss As = true) (hnS : (Ss.map (·.2)).Nodup)
    (hfs : ∀ p ∈ Ss, (fs p.2).length = (zs p.2).length)
    (hal : ∀ i ∈ As, ∃ o, l.toArray[i]? = some o ∧ AllocsAs P o (zs i))
    (h : wpKeep P l.toArray w (fun a' => ∀ (G : Nat → Nat), (∀ p ∈ Ss, ∃ o, l.toArray[p.1]? = some o ∧ PutsK P l.toArray o (putsA l.toArray G As a') (G p.2) (fs p.2)) ∧ ∀ w', Keeps w w' → (∀ i ∈ As, w.heap.size ≤ G i ∧ Row w' (G i) 0 (finZ Ss zs fs i) ∧ ∀ j ∈ As, j ≠ i → G j ≠ G i) → wpList P l.toArray Q (l.drop n) (putsA l.toArray G As a') w') π a) : (Code.region id l.toArray true).wp P Q a w := by
  simp only [keepB, Bool.and_eq_true, decide_eq_true_eq] at hB
  obtain ⟨⟨⟨⟨⟨⟨⟨hsel, hn⟩, hs⟩, hc⟩, hp⟩, hap⟩, hnd⟩, hlen⟩ := hB
  rw [List.nodup_append] at hnd
  obtain ⟨hnA, hnπS, hdisj⟩ := hnd
  rw [List.nodup_append] at hnπS
  obtain ⟨hnπ, hnS1, hdisj2⟩ := hnπS
  have hdl : (l.drop n).length = l.toArray.size - n := by simp
  have inv0 : HeadInv .any l.toArray n (Array.replicate l.toArray.size false) :=
    ⟨by simp, fun j oj _ hl => (by rw [getD_replicate_false] at hl; cases hl), fun t _ ht => getD_in (by simpa using ht) (getD_replicate_false _ _)⟩
  have look : ∀ p ∈ Ss, p.2 ∈ As ∧ p.1 ∉ As ∧ ∃ o ok d, l.toArray[p.1]? = some o ∧ l.toArray[p.2]? = some ok ∧ ok.dst = some d ∧ d ∈ o.looksAt l.toArray ∧ o.dst = none ∧ ∃ e ∈ o.after, Region.binds .any e = true ∧ e.on = p.2 := fun p hp' => by
    have h1 := List.all_eq_true.1 hSs p hp'
    simp only [Bool.and_eq_true, Bool.not_eq_true', List.contains_eq_mem, decide_eq_true_eq, decide_eq_false_iff_not] at h1
    obtain ⟨⟨h2, h3⟩, h4⟩ := h1
    refine ⟨h2, h3, ?_⟩
    split at h4
    · rename_i o ok ho hok
      simp only [Bool.and_eq_true, beq_iff_eq] at h4
      obtain ⟨⟨h5, h6⟩, h7⟩ := h4
      split at h5
      · rename_i d hd
        obtain ⟨e, he, hb⟩ := Array.any_eq_true'.1 h7
        simp only [Bool.and_eq_true, beq_iff_eq] at hb
        exact ⟨o, ok, d, ho, hok, hd, by simpa using h5, h6, e, he, hb.1, hb.2⟩
      · cases h5
    · cases h4
  have stS : ∀ i k c, stOf Ss fs i = some (k, c) → (i, k) ∈ Ss ∧ c = fs k := fun i k c h => by
    unfold stOf at h
    cases hf : Ss.find? (fun p => p.1 == i) with
    | none => rw [hf] at h; cases h
    | some p =>
      rw [hf] at h
      have h1 := List.find?_some hf
      have h2 := List.mem_of_find?_eq_some hf
      simp only [beq_iff_eq] at h1
      simp only [Option.map_some, Option.some.injEq, Prod.mk.injEq] at h
      obtain ⟨h3, h4⟩ := h
      subst h1
      rw [← h3]
      exact ⟨h2, by rw [← h4]⟩
  have stP : ∀ p ∈ Ss, stOf Ss fs p.1 = some (p.2, fs p.2) := fun p hp' => by
    unfold stOf
    cases hf : Ss.find? (fun q => q.1 == p.1) with
    | none =>
      have := List.find?_eq_none.1 hf p hp'
      simp at this
    | some q =>
      have h1 := List.find?_some hf
      have h2 := List.mem_of_find?_eq_some hf
      simp only [beq_iff_eq] at h1
      have : q = p := by
        clear hf hSs hfs h look stS hap hp hlen hdisj hdisj2 hnS
        induction Ss with
        | nil => cases hp'
        | cons x Ss ih =>
          rw [List.map_cons, List.nodup_cons] at hnS1
          rcases List.mem_cons.1 hp' with e1 | e1 <;> rcases List.mem_cons.1 h2 with e2 | e2
          · rw [e1, e2]
          · exact absurd (List.mem_map.2 ⟨q, e2, by rw [h1, e1]⟩) hnS1.1
          · exact absurd (List.mem_map.2 ⟨p, e1, by rw [← h1, e2]⟩) hnS1.1
          · exact ih hnS1.2 e1 e2
      rw [this]; rfl
  have hst : StOk l.toArray (fun i => decide (i ∈ As)) (stOf Ss fs) := fun i k c hi => by
    obtain ⟨h1, h2⟩ := stS i k c hi
    obtain ⟨l1, l2, o, ok, d, ho, hok, hd, hm, hod, _⟩ := look _ h1
    refine ⟨decide_eq_false l2, decide_eq_true l1, fun o' ok' ho' hok' => ⟨d, ?_, ?_⟩, fun j c' hj => ?_⟩
    · have : ok' = ok := by rw [hok] at hok'; exact (Option.some.inj hok').symm
      rw [this]; exact hd
    · have : o' = o := by rw [ho] at ho'; exact (Option.some.inj ho').symm
      rw [this]; exact hm
    · obtain ⟨h3, h4⟩ := stS j k c' hj
      clear hSs hfs h look stS stP hap hp hlen hdisj hdisj2 hnS1 hi hj
      induction Ss with
      | nil => cases h1
      | cons x Ss ih =>
        rw [List.map_cons, List.nodup_cons] at hnS
        rcases List.mem_cons.1 h1 with e1 | e1 <;> rcases List.mem_cons.1 h3 with e2 | e2
        · have := e1.trans e2.symm
          exact ((Prod.mk.inj this).1).symm
        · exact absurd (List.mem_map.2 ⟨(j, k), e2, by rw [← e1]⟩) hnS.1
        · exact absurd (List.mem_map.2 ⟨(i, k), e1, by rw [← e2]⟩) hnS.1
        · exact ih hnS.2 e1 e2
  have hwt : StWaits .any l.toArray (stOf Ss fs) := fun s k c hs o ho => by
    obtain ⟨h1, h2⟩ := stS s k c hs
    obtain ⟨l1, l2, o', ok, d, ho', hok, hd, hm, hod, he⟩ := look _ h1
    obtain rfl : o = o' := by rw [ho] at ho'; exact Option.some.inj ho'
    exact he
  have hstl : ∀ s k c, stOf Ss fs s = some (k, c) → c.length = (zs k).length := fun s k c hs => by
    obtain ⟨h1, h2⟩ := stS s k c hs
    rw [h2]; exact hfs _ h1
  have hAπ : ∀ i ∈ π, (fun i => decide (i ∈ As)) i = false ∧ stOf Ss fs i = none := fun i hi => ⟨decide_eq_false (fun h => hdisj i h i (List.mem_append_left _ hi) rfl), by
    cases hsi : stOf Ss fs i with
    | none => rfl
    | some kc =>
      obtain ⟨h1, _⟩ := stS i kc.1 kc.2 (by rw [hsi])
      exact absurd rfl (hdisj2 i hi i (List.mem_map.2 ⟨_, h1, rfl⟩))⟩
  obtain ⟨val, hu, hv⟩ := run_of_keep (A := fun i => decide (i ∈ As)) (St := stOf Ss fs) π a h hnπ hAπ
  have hrun := run_allocs (A := fun i => decide (i ∈ As)) (St := stOf Ss fs) (π := π ++ Ss.map (·.1)) As a (fun _ => 0) hnA (fun i hi => ⟨decide_eq_true hi, (hal i hi).imp fun o h => h.1⟩) (Lq := fun a' G' => ∃ a'', (∀ (G : Nat → Nat), (∀ p ∈ Ss, ∃ o, l.toArray[p.1]? = some o ∧ PutsK P l.toArray o (putsA l.toArray G As a'') (G p.2) (fs p.2)) ∧ ∀ w', Keeps w w' → (∀ i ∈ As, w.heap.size ≤ G i ∧ Row w' (G i) 0 (finZ Ss zs fs i) ∧ ∀ j ∈ As, j ≠ i → G j ≠ G i) → wpList P l.toArray Q (l.drop n) (putsA l.toArray G As a'') w') ∧ a' = putsA l.toArray G' As a'') (val := val) (fun G' => by
    have := hv (putsA l.toArray G' As) G' (putsA_ok (Region.noSelect_spec hsel) G' As hap)
    refine runK_append π _ _ (runK_mono π _ _ (fun a1 G1 h1 => ?_) this)
    obtain ⟨rfl, a2, h2, h3⟩ := h1
    subst h3
    refine run_stores _ _ _ (fun i hi => ?_) ⟨a2, h2, rfl⟩
    obtain ⟨p, hp1, rfl⟩ := List.mem_map.1 hi
    obtain ⟨l1, l2, o, ok, d, ho, hok, hd, hm, hod, _⟩ := look _ hp1
    refine ⟨decide_eq_false l2, hu _ (fun hp2 => hdisj2 _ hp2 _ hi rfl), o, p.2, fs p.2, ho, hod, stP p hp1, ?_⟩
    obtain ⟨o', ho', hpu⟩ := (h2 G1).1 p hp1
    obtain rfl : o = o' := by rw [ho] at ho'; exact Option.some.inj ho'
    exact hpu)
  have H := wpAnyK_perm (md := .any) (As := As ++ (π ++ Ss.map (·.1))) hst hsel hs hc hn (As ++ (π ++ Ss.map (·.1))) _ a (fun _ => 0) inv0 hp hrun
  refine wp_region_any hm ?_
  have := wpAny_of_K (Q := Q) (zs := zs) (g := l.toArray.size - n) hst hwt hstl (fun i o hi ho => by
    obtain ⟨o', ho', h⟩ := hal i (of_decide_eq_true hi)
    obtain rfl : o = o' := by rw [ho] at ho'; exact Option.some.inj ho'
    exact h) (fun listed a' G' w' hw' hA hL => by
    obtain ⟨⟨h1, h2⟩, a2, h3, rfl⟩ := hL
    have hlist : ∀ i ∈ As ++ (π ++ Ss.map (·.1)), listed.getD i false = true := fun i hi => List.all_eq_true.1 h2 i hi
    have h4 := (h3 G').2 w' hw' (fun i hi => by
      obtain ⟨b1, b2, ⟨cs, b3, b5⟩, b4⟩ := hA i (decide_eq_true hi) (hlist i (List.mem_append_left _ hi))
      refine ⟨b1, ?_, fun j hj hne => b4 j (decide_eq_true hj) (hlist j (List.mem_append_left _ hj)) hne⟩
      have : cs = finZ Ss zs fs i := by
        unfold finZ
        split
        · rename_i hc'
          rw [List.contains_eq_mem, decide_eq_true_eq] at hc'
          obtain ⟨p, hp1, rfl⟩ := List.mem_map.1 hc'
          exact b3.2.1 p.1 _ (hlist p.1 (List.mem_append_right _ (List.mem_append_right _ (List.mem_map.2 ⟨p, hp1, rfl⟩)))) (stP p hp1)
        · rename_i hc'
          rw [List.contains_eq_mem, decide_eq_true_eq] at hc'
          refine b3.2.2 fun s c _ hs' => hc' (List.mem_map.2 ⟨(s, i), (stS s i c hs').1, rfl⟩)
      rw [← this]; exact b5)
    have := wpAny_of_seq (md := .any) (Q' := Q) (l.drop n) n listed (putsA l.toArray G' As a2) w' (fun j => by simp [List.getElem?_drop]) (by rw [hdl]; exact h1) h4
    rwa [hdl] at this) _ _ _ _ { w with drawn := w.drawn + 1 } (by simp) (fun s k c _ hl => by rw [getD_replicate_false] at hl; cases hl) (keeps_drew1 (Keeps.refl w)) (fun i _ hl => by rw [getD_replicate_false] at hl; cases hl) H
  rw [hlen, show n + (l.toArray.size - n) = l.toArray.size by omega] at this
  exact this
theorem wp_region_keep {id : Nat} {Q : Exit → Act → World → Prop} {a : Act} {w : World} {l : List Oper} (n : Nat) (As π : List Nat) (zs : Nat → List Value) (hm : P.follows .mixedOrders = true) (hB : keepB .any l.toArray n As π [] = true)
    (hal : ∀ i ∈ As, ∃ o, l.toArray[i]? = some o ∧ AllocsAs P o (zs i))
    (h : wpKeep P l.toArray w (fun a' => ∀ (G : Nat → Nat) w', Keeps w w' → (∀ i ∈ As, w.heap.size ≤ G i ∧ Row w' (G i) 0 (zs i) ∧ ∀ j ∈ As, j ≠ i → G j ≠ G i) → wpList P l.toArray Q (l.drop n) (putsA l.toArray G As a') w') π a) : (Code.region id l.toArray true).wp P Q a w := by
  refine wp_region_st n As π [] zs zs hm hB rfl List.nodup_nil (fun p hp => by cases hp) hal ?_
  have mono : ∀ (π : List Nat) (a : Act) (L1 L2 : Act → Prop), (∀ a, L1 a → L2 a) → wpKeep P l.toArray w L1 π a → wpKeep P l.toArray w L2 π a := by
    intro π
    induction π with
    | nil => intro a L1 L2 hL h; exact hL _ h
    | cons i π ih =>
      intro a L1 L2 hL h
      obtain ⟨o, v, h1, h2, h3⟩ := h
      exact ⟨o, v, h1, h2, ih _ _ _ hL h3⟩
  exact mono π a _ _ (fun a' h1 G => ⟨fun p hp => (by cases hp), fun w' hk hr => h1 G w' hk hr⟩) h
/-- the walk's steps -/
theorem keep_pure {Lk : Act → Prop} {i : Nat} {π : List Nat} {a : Act} {o : Oper} {v : Value} (ho : ops[i]? = some o) (hw : Region.wanted o (yielded ops a.tmps) = true) (hx : ∀ w, Keeps W w → (execOp a.eval o).run P w = .ok (.value v) w) (h : wpKeep P ops W Lk π (a.put o.dst v)) : wpKeep P ops W Lk (i :: π) a :=
  ⟨o, v, ho, .inl ⟨hw, fun w hk => by rw [hx w hk]; exact ⟨rfl, rfl⟩⟩, h⟩
theorem keep_skip {Lk : Act → Prop} {i : Nat} {π : List Nat} {a : Act} {o : Oper} (ho : ops[i]? = some o) (hw : Region.wanted o (yielded ops a.tmps) = false) (h : wpKeep P ops W Lk π (a.put o.dst undef)) : wpKeep P ops W Lk (i :: π) a :=
  ⟨o, undef, ho, .inr ⟨hw, rfl⟩, h⟩
theorem keep_call {Lk : Act → Prop} {i : Nat} {π : List Nat} {a : Act} {o : Oper} {f : FuncId} {args : Array Value} {v : Value} (ho : ops[i]? = some o) (hw : Region.wanted o (yielded ops a.tmps) = true) (hx : ∀ w, (execOp a.eval o).run P w = .ok (.enter f args) w)
    (hc : ∀ w, Keeps W w → Calls P f args w (fun e w' => e = .returned v ∧ Keeps w w')) (h : wpKeep P ops W Lk π (a.put o.dst v)) : wpKeep P ops W Lk (i :: π) a :=
  ⟨o, v, ho, .inl ⟨hw, fun w hk => by rw [hx w]; exact ⟨rfl, hc w hk⟩⟩, h⟩
theorem keep_nil {Lk : Act → Prop} {a : Act} (h : Lk a) : wpKeep P ops W Lk [] a := h
/-- the same steps, what they ask filled in -/
theorem kp {Lk : Act → Prop} {i : Nat} {π : List Nat} {a a' : Act} {o : Oper} {v : Value} (ho : ops[i]? = some o := by simp only [kG]; exact rfl) (hw : Region.wanted o (yielded ops a.tmps) = true := by rfl) (hx : ∀ w, Keeps W w → (execOp a.eval o).run P w = .ok (.value v) w := by (intro wS hS; go_simp) <;> with_reducible rfl) (ha : a.put o.dst v = a' := by (try simp only [kP]); rfl) (h : wpKeep P ops W Lk π a') : wpKeep P ops W Lk (i :: π) a :=
  keep_pure ho hw hx (by rw [ha]; exact h)
theorem ks {Lk : Act → Prop} {i : Nat} {π : List Nat} {a a' : Act} {o : Oper} (ho : ops[i]? = some o := by simp only [kG]; exact rfl) (hw : Region.wanted o (yielded ops a.tmps) = false := by rfl) (ha : a.put o.dst undef = a' := by (try simp only [kP]); rfl) (h : wpKeep P ops W Lk π a') : wpKeep P ops W Lk (i :: π) a :=
  keep_skip ho hw (by rw [ha]; exact h)
theorem kc {Lk : Act → Prop} {i : Nat} {π : List Nat} {a a' : Act} {o : Oper} {f : FuncId} {args : Array Value} {v : Value} (ho : ops[i]? = some o := by simp only [kG]; exact rfl) (hw : Region.wanted o (yielded ops a.tmps) = true := by rfl) (hx : ∀ w, (execOp a.eval o).run P w = .ok (.enter f args) w := by intro wS; go_simp; refine ⟨?_, ?_⟩ <;> with_reducible rfl) (hc : ∀ w, Keeps W w → Calls P f args w (fun e w' => e = .returned v ∧ Keeps w w')) (ha : a.put o.dst v = a' := by (try simp only [kP]); rfl) (h : wpKeep P ops W Lk π a') : wpKeep P ops W Lk (i :: π) a :=
  keep_call ho hw hx hc (by rw [ha]; exact h)
/-- a load of a row of integers -/
theorem kl {Lk : Act → Prop} {i : Nat} {π : List Nat} {a a' : Act} {o : Oper} {X : List Int} {kd : IntKind} {n g off : Nat} {ty : TypeId} {x : Operand} (hR : ∀ w, Keeps W w → Row w g off (X.map (Value.int kd))) (hl : X.length = n) (ho : ops[i]? = some o := by simp only [kG]; exact rfl) (hw : Region.wanted o (yielded ops a.tmps) = true := by rfl) (hop : o.op = .load ty x := by rfl) (hx : a.eval x = .pointer (some ⟨g, off, none⟩) := by rfl)
    (hu : (match P.underlying ty with | some (.struct _) | some (.array _ _) => true | _ => false) = true := by kernel_rfl) (hi : (P.info? ty).map (·.size) = some n := by kernel_rfl) (ha : a.put o.dst (.agg (X.map (Value.int kd)).toArray) = a' := by (try simp only [kP]); rfl) (h : wpKeep P ops W Lk π a') : wpKeep P ops W Lk (i :: π) a := by
  cases hc : P.underlying ty with
  | none => rw [hc] at hu; cases hu
  | some d =>
    rw [hc] at hu
    cases d <;> first | exact keep_pure ho hw (fun w hk => cu_run_load ty x hop g off hx _ _ (hR w hk) hc rfl (by rw [List.length_map, hl]; exact hi)) (by rw [ha]; exact h) | exact absurd hu Bool.false_ne_true
end
end Go.Proofs.YtlofddoojkeakaaDoor
