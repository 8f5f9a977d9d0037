/- Lists of inputs and of outputs of one's own: appended to, read, written. No condition. -/
import Derived.Test.YtcodpdpeklammaaGreatDoorGA4
import Derived.Great.BuildSlice
import Derived.BigRegion
namespace Go.Proofs.YtcodpdpeklammaaGreatDoor
set_option linter.unusedVariables false
set_option linter.unusedSimpArgs false
open Go Go.RowKit

theorem keeps_alloc {w W : World} (h : Keeps w W) (o : Obj) : Keeps w (W.alloc o) := Below.alloc h h.size o
theorem keeps_drew {w W : World} (h : Keeps w W) : Keeps w W.drew := Below.drew h
theorem keeps_chg {w W W' : World} {g : Nat} (h : Keeps w W) (hc : Chg (· = g) W W') (hg : w.heap.size ≤ g) : Keeps w W' :=
  Below.trans h (hc.below h.size (fun k hk e => by omega))
theorem wp_rows1 {P : Program} {c : Code} {Q : Exit → Act → World → Prop} {a : Act} {w : World} {A : Array Value} {T : TypeId}
    (h : ∀ W, Keeps w W → Row W w.heap.size 0 A.toList → W.heap.size = w.heap.size + 1 → Code.wp P c Q a W) :
    Code.wp P c Q a (w.alloc (.cells A T)) := by
  have h0 := Row.new (w := w) A.toList A T (by simp)
  exact h _ (keeps_alloc (Keeps.refl w) _) h0 (by simp)
theorem wpList_build_at {P : Program} {ops : Array Oper} {rest : List Oper} {o : Oper} {a : Act} {w : World} {Q : Exit → Act → World → Prop} (hg : o.guard = none) (t : TypeId) (parts : Array (Nat × Operand)) (ho : o.op = .build t parts) (vs : List (Nat × Value)) (hv : (parts.map fun (i, x) => (i, a.eval x)).toList = vs) (out : Array Value)
    (hb : P.built t vs = some out) (h : wpList P ops Q rest (a.put o.dst (.agg out)) w) : wpList P ops Q (o :: rest) a w := by
  subst hv
  refine wpList_plain hg fun _ hK => ?_
  unfold Oper.wp execOp
  simp only [ho, Sem.run_bind, run_build w t _ _ hb, Result.andThen_ok]
  exact hK _ _ h
/-- what a load of a whole row yields -/
theorem run_load_row {P : Program} {o : Oper} {a : Act} {w : World} (ty : TypeId) (x : Operand) (ho : o.op = .load ty x) (g off : Nat) (hx : a.eval x = .pointer (some ⟨g, off, none⟩)) (cs : List Value) (d : TypeDesc) (hg : Row w g off cs)
    (hu : P.underlying ty = some d) (hd : (match d with | .struct _ | .array _ _ => true | _ => false) = true) (hi : (P.info? ty).map (·.size) = some cs.length) : (execOp a.eval o).run P w = .ok (.value (.agg cs.toArray)) w := by
  unfold execOp
  simp only [ho, hx, Instr.loadAt, Instr.sureAddr, Sem.run_bind, Sem.run_pure, Result.andThen_ok, run_loadVar_at w g off ty cs d hg hu hd hi]
theorem sz_in (d : InD) (sv wv : Value) (h : d.hash.length = 32) : (Tryz.prog.info? 100).map (·.size) = some (inCells d sv wv).length := by rw [inCells_length d sv wv h]; kernel_rfl
theorem sz_out (d : OutD) (sv : Value) : (Tryz.prog.info? 102).map (·.size) = some (outCells d sv).length := by kernel_rfl
theorem in_info : (Tryz.prog.info? 100).map (fun i => (i.size, i.bytes)) = some (36, 96) := by kernel_rfl
theorem out_info : (Tryz.prog.info? 102).map (fun i => (i.size, i.bytes)) = some (2, 32) := by kernel_rfl
/-- a point's cells -/
def pointCells (d : InD) : List Value := d.hash.map (Value.int .u8) ++ [.int .u32 d.index]
theorem pointCells_length (d : InD) (h : d.hash.length = 32) : (pointCells d).length = 33 := by simp [pointCells, h]
theorem inCells_point (d : InD) (sv wv : Value) : inCells d sv wv = pointCells d ++ [sv, .int .u32 d.seq, wv] := by simp [inCells, pointCells]
theorem fold_set (off : Nat) : ∀ (new : List Value) (k : Nat) (pre olds post : List Value), olds.length = new.length → pre.length = off + k →
    (new.zipIdx k).foldl (fun (cs : Array Value) (x : Value × Nat) => cs.setIfInBounds (off + x.2) x.1) (pre ++ olds ++ post).toArray = (pre ++ new ++ post).toArray
  | [], k, pre, olds, post, h, _ => by
    obtain rfl : olds = [] := List.eq_nil_of_length_eq_zero (by simpa using h)
    rfl
  | v :: new, k, pre, [], post, h, _ => by simp at h
  | v :: new, k, pre, u :: olds, post, h, hp => by
    rw [List.zipIdx_cons, List.foldl_cons]
    have e : (pre ++ u :: olds ++ post).toArray.setIfInBounds (off + k) v = ((pre ++ [v]) ++ olds ++ post).toArray := by
      rw [List.setIfInBounds_toArray, ← hp]
      simp
    show List.foldl _ ((pre ++ u :: olds ++ post).toArray.setIfInBounds (off + k) v) _ = _
    rw [e, fold_set off new (k + 1) (pre ++ [v]) olds post (by simpa using h) (by simp; omega)]
    simp
theorem fill_at (place : Nat → Option (Nat × Nat)) (pre olds post new : List Value) (i : Nat) (v : Value) (rest : List (Nat × Value)) (hv : v.cells = new.toArray) (hl : olds.length = new.length) (hp : place i = some (pre.length, new.length)) :
    Instr.fill place (pre ++ olds ++ post).toArray ((i, v) :: rest) = Instr.fill place (pre ++ new ++ post).toArray rest := by
  have h0 := fold_set pre.length new 0 pre olds post hl (by omega)
  rw [Instr.fill, hp]
  simp only [hv]
  rw [if_neg (by simp; omega)]
  congr 1
  rw [← h0, ← Array.foldl_toList]
  simp
def zeroIn : List Value := List.replicate 32 (Value.int .u8 0) ++ [Value.int .u32 0, Value.slice none 0 0, Value.int .u32 0, Value.slice none 0 0]
theorem built_in_eq (parts : List (Nat × Value)) : Tryz.prog.built 100 parts = Instr.fill (([(0, 33), (33, 1), (34, 1), (35, 1)] : List (Nat × Nat)).toArray[·]?) zeroIn.toArray parts := by kernel_rfl
/-- an input built of its parts -/
theorem built_in (l : List Value) (a b : Option Addr) (n m c e : Nat) (q : Int) (hl : l.length = 33) : Tryz.prog.built 100 [(0, .agg l.toArray), (1, .slice a n c), (2, .int .u32 q), (3, .slice b m e)] = some (l ++ [Value.slice a n c, Value.int .u32 q, Value.slice b m e]).toArray := by
  rw [built_in_eq]
  unfold zeroIn
  have h1 := fill_at (([(0, 33), (33, 1), (34, 1), (35, 1)] : List (Nat × Nat)).toArray[·]?) [] (List.replicate 32 (Value.int .u8 0) ++ [Value.int .u32 0]) [Value.slice none 0 0, Value.int .u32 0, Value.slice none 0 0] l 0 (.agg l.toArray) [(1, .slice a n c), (2, .int .u32 q), (3, .slice b m e)] rfl (by simp [hl]) (by simp [hl])
  have h2 := fill_at (([(0, 33), (33, 1), (34, 1), (35, 1)] : List (Nat × Nat)).toArray[·]?) l [Value.slice none 0 0] [Value.int .u32 0, Value.slice none 0 0] [.slice a n c] 1 (.slice a n c) [(2, .int .u32 q), (3, .slice b m e)] rfl rfl (by simp [hl])
  have h3 := fill_at (([(0, 33), (33, 1), (34, 1), (35, 1)] : List (Nat × Nat)).toArray[·]?) (l ++ [.slice a n c]) [Value.int .u32 0] [Value.slice none 0 0] [.int .u32 q] 2 (.int .u32 q) [(3, .slice b m e)] rfl rfl (by simp [hl])
  have h4 := fill_at (([(0, 33), (33, 1), (34, 1), (35, 1)] : List (Nat × Nat)).toArray[·]?) (l ++ [.slice a n c, .int .u32 q]) [Value.slice none 0 0] [] [.slice b m e] 3 (.slice b m e) [] rfl rfl (by simp [hl])
  simp only [List.nil_append, List.append_assoc, List.cons_append] at h1 h2 h3 h4 ⊢
  rw [h1, h2, h3, h4]
  rfl
/-- a slice of one element -/
theorem fill_one (l : List Value) (s : Nat) (z : Array Value) (hs : 0 < s) (hl : l.length = s) : Instr.fill (fun i => some (i * s, s)) ((Array.range (1 * s)).map (z[· % z.size]!)) [(0, .agg l.toArray)] = some l.toArray := by
  have := Great.fill_whole hs [.agg l.toArray] ((Array.range (1 * s)).map (z[· % z.size]!)) (fun v hv => by simp at hv; subst hv; simp [Value.cells, hl]) (by simp)
  simpa [Value.cells] using this

/-- no two inputs share a list of items -/
def ApartW (ps : List (Value × Value)) : Prop := ∀ (i k : Nat) (p q : Value × Value), i ≠ k → ps[i]? = some p → ps[k]? = some q → ∀ g, p.2.ownBlock = some g → q.2.ownBlock ≠ some g
theorem RLL.foot {S T : Nat → Prop} {w : World} {v : Value} {ls : List (List Int)} (h : RLL S T w v ls) : ∀ g, v.ownBlock = some g → T g := h.elim fun _ h => h.foot
/-- a list of inputs of one's own: its row and all that it leads to lie in blocks from 'base' on; S: bytes, T: lists of items -/
structure OwnI (S T : Nat → Prop) (base : Nat) (W : World) (v : Value) (l : List InD) (cs : List Value) (ps : List (Value × Value)) : Prop where
  buf : Buf W 36 v l.length cs
  new : ∀ g, v.ownBlock = some g → base ≤ g
  plen : ps.length = l.length
  each : ∀ (i : Nat) (p : Value × Value) (d : InD), ps[i]? = some p → l[i]? = some d → RIn S T W p.1 p.2 d ∧ (cs.drop (i * 36)).take 36 = inCells d p.1 p.2
  fresh : ∀ g, S g ∨ T g → base ≤ g ∧ g < W.heap.size ∧ v.ownBlock ≠ some g
  disj : ∀ g, S g → ¬ T g
  one : ∀ u ∈ cs, u.oneCell' = true
  apart : ApartW ps
theorem OwnI.any {S T : Nat → Prop} {base : Nat} {W : World} {v : Value} {l : List InD} {cs : List Value} {ps : List (Value × Value)} (h : OwnI S T base W v l cs ps) : ∃ a cap, v = .slice a l.length cap := by
  obtain ⟨a, cap, h1, _⟩ := h.buf.any
  exact ⟨a, cap, h1⟩
def NoneB : Nat → Prop := fun _ => False
theorem OwnI.nil (base : Nat) (W : World) : OwnI NoneB NoneB base W (.slice none 0 0) [] [] [] :=
  ⟨Buf.nil _ _, fun g h => by simp [Value.ownBlock] at h, rfl, fun i p d h => by simp at h, fun g h => by rcases h with h | h <;> exact h.elim, fun g h => h.elim, fun u h => by simp at h, fun i k p q _ h => by simp at h⟩
/-- a change elsewhere -/
theorem OwnI.chg {S T X : Nat → Prop} {base : Nat} {W W' : World} {v : Value} {l : List InD} {cs : List Value} {ps : List (Value × Value)} (h : OwnI S T base W v l cs ps) (hc : Chg X W W') (hx : ∀ g, X g → g < base ∨ W.heap.size ≤ g) : OwnI S T base W' v l cs ps :=
  have hb : ∀ g, v.ownBlock = some g → g < W.heap.size := fun g e => h.buf.lt e
  ⟨h.buf.chg hc (fun g e hxg => by have h1 := h.new g e; have h2 := hb g e; have := hx g hxg; omega), h.new, h.plen,
    fun i p d hp hd => ⟨(h.each i p d hp hd).1.chg hc (fun g hg hxg => by have h1 := h.fresh g (.inl hg); have := hx g hxg; omega) (fun g hg hxg => by have h1 := h.fresh g (.inr hg); have := hx g hxg; omega), (h.each i p d hp hd).2⟩,
    fun g hg => ⟨(h.fresh g hg).1, Nat.lt_of_lt_of_le (h.fresh g hg).2.1 hc.size, (h.fresh g hg).2.2⟩, h.disj, h.one, h.apart⟩
theorem OwnI.keeps {S T : Nat → Prop} {base : Nat} {W W' : World} {v : Value} {l : List InD} {cs : List Value} {ps : List (Value × Value)} (h : OwnI S T base W v l cs ps) (hk : Keeps W W') : OwnI S T base W' v l cs ps :=
  h.chg (hk.chg (fun _ => False)) (fun _ h => h.elim)
theorem inCells_one (d : InD) (sv wv : Value) (hs : sv.oneCell' = true) (hw : wv.oneCell' = true) : ∀ u ∈ inCells d sv wv, u.oneCell' = true := by
  intro u hu
  simp only [inCells, List.mem_append, List.mem_map, List.mem_cons, List.not_mem_nil, or_false] at hu
  rcases hu with ⟨x, _, rfl⟩ | rfl | rfl | rfl | rfl <;> first | rfl | assumption
theorem RLL.one {S T : Nat → Prop} {w : World} {v : Value} {ls : List (List Int)} (h : RLL S T w v ls) : v.oneCell' = true := by
  obtain ⟨a, cap, rfl, _⟩ := h.any; rfl
/-- behind an append of one more -/
theorem OwnI.after {S T S1 T1 : Nat → Prop} {base : Nat} {W W1 w2 : World} {v v' sv wv : Value} {l : List InD} {cs : List Value} {ps : List (Value × Value)} {d : InD} (h : OwnI S T base W v l cs ps) (hb0 : base ≤ W.heap.size) (hk : Keeps W W1)
    (hd : RIn S1 T1 W1 sv wv d) (h1 : ∀ g, S1 g ∨ T1 g → W.heap.size ≤ g ∧ g < W1.heap.size) (hdj : ∀ g, S1 g → ¬ T1 g)
    (hb : Buf w2 36 v' (l.length + 1) (cs ++ inCells d sv wv)) (hc : Chg (fun k => v.ownBlock = some k) W1 w2) (hs : SameOrNew W1 v v') :
    OwnI (fun g => S g ∨ S1 g) (fun g => T g ∨ T1 g) base w2 v' (l ++ [d]) (cs ++ inCells d sv wv) (ps ++ [(sv, wv)]) := by
  have hw := hk.size
  have hvl : ∀ g, v.ownBlock = some g → g < W.heap.size := fun g e => h.buf.lt e
  have hv' : ∀ g, g < W1.heap.size → v.ownBlock ≠ some g → v'.ownBlock ≠ some g := fun g h1 h2 => by
    rcases hs with e | ⟨g', e1, e2⟩
    · rw [e]; exact h2
    · rw [e1]; intro e; cases e; omega
  have hcl : cs.length = l.length * 36 := h.buf.1
  refine ⟨by rw [List.length_append]; exact hb, ?_, by simp [h.plen], ?_, ?_, ?_, ?_, ?_⟩
  · intro g hg
    rcases hs with e | ⟨g', e1, e2⟩
    · exact h.new g (by rw [← e]; exact hg)
    · rw [hg] at e1; cases e1; omega
  · intro i p d' hp hd'
    by_cases hi : i < l.length
    · have hip : i < ps.length := by rw [h.plen]; exact hi
      rw [List.getElem?_append_left hip] at hp
      rw [List.getElem?_append_left hi] at hd'
      obtain ⟨e1, e2⟩ := h.each i p d' hp hd'
      refine ⟨((e1.keeps hk).chg hc (fun g hg e => (h.fresh g (.inl hg)).2.2 e) (fun g hg e => (h.fresh g (.inr hg)).2.2 e)).mono (fun _ => .inl) (fun _ => .inl), ?_⟩
      rw [← e2, List.drop_append_of_le_length (by omega), List.take_append_of_le_length (by simp; omega)]
    · have hi' : i = l.length := by
        have := (List.getElem?_eq_some_iff.1 hd').1
        simp at this; omega
      subst hi'
      rw [List.getElem?_append_right (by rw [h.plen]; exact Nat.le_refl _), h.plen] at hp
      rw [List.getElem?_append_right (Nat.le_refl _)] at hd'
      simp at hp hd'
      subst hp hd'
      refine ⟨(hd.chg hc (fun g hg e => by have h2 := h1 g (.inl hg); have := hvl g e; omega) (fun g hg e => by have h2 := h1 g (.inr hg); have := hvl g e; omega)).mono (fun _ => .inr) (fun _ => .inr), ?_⟩
      rw [List.drop_append, List.drop_eq_nil_of_le (by omega), hcl, Nat.sub_self, List.drop_zero, List.nil_append, List.take_of_length_le]
      rw [inCells_length _ _ _ hd.ok.hashLen]; exact Nat.le_refl _
  · intro g hg
    have hcs := hc.size
    rcases hg with (hg | hg) | (hg | hg)
    · have h2 := h.fresh g (.inl hg); exact ⟨h2.1, by omega, hv' g (by omega) h2.2.2⟩
    · have h2 := h1 g (.inl hg); exact ⟨by omega, by omega, hv' g h2.2 (fun e => by have := hvl g e; omega)⟩
    · have h2 := h.fresh g (.inr hg); exact ⟨h2.1, by omega, hv' g (by omega) h2.2.2⟩
    · have h2 := h1 g (.inr hg); exact ⟨by omega, by omega, hv' g h2.2 (fun e => by have := hvl g e; omega)⟩
  · intro g hg ht
    rcases hg with hg | hg <;> rcases ht with ht | ht
    · exact h.disj g hg ht
    · have h2 := h.fresh g (.inl hg); have h3 := h1 g (.inr ht); omega
    · have h2 := h.fresh g (.inr ht); have h3 := h1 g (.inl hg); omega
    · exact hdj g hg ht
  · intro u hu
    rcases List.mem_append.1 hu with hu | hu
    · exact h.one u hu
    · exact inCells_one d sv wv hd.script.one hd.wit.one u hu
  · have old : ∀ (i : Nat) (p : Value × Value), ps[i]? = some p → ∀ g, p.2.ownBlock = some g → g < W.heap.size := fun i p hp g e => by
      have hi : i < l.length := by rw [← h.plen]; exact (List.getElem?_eq_some_iff.1 hp).1
      exact (h.fresh g (.inr ((h.each i p l[i] hp (List.getElem?_eq_getElem hi)).1.wit.foot g e))).2.1
    have new : ∀ g, wv.ownBlock = some g → W.heap.size ≤ g := fun g e => (h1 g (.inr (hd.wit.foot g e))).1
    intro i k p q hik hp hq g e e2
    have cases2 : ∀ (m : Nat) (x : Value × Value), (ps ++ [(sv, wv)])[m]? = some x → (m < ps.length ∧ ps[m]? = some x) ∨ (m = ps.length ∧ x = (sv, wv)) := fun m x hx => by
      by_cases hm : m < ps.length
      · rw [List.getElem?_append_left hm] at hx; exact .inl ⟨hm, hx⟩
      · have hm2 := (List.getElem?_eq_some_iff.1 hx).1
        simp at hm2
        obtain rfl : m = ps.length := by omega
        rw [List.getElem?_append_right (Nat.le_refl _)] at hx
        simp at hx
        exact .inr ⟨rfl, hx.symm⟩
    rcases cases2 i p hp with ⟨_, a1⟩ | ⟨a0, rfl⟩ <;> rcases cases2 k q hq with ⟨_, b1⟩ | ⟨b0, rfl⟩
    · exact h.apart i k p q hik a1 b1 g e e2
    · have h3 := old i p a1 g e; have h4 := new g e2; omega
    · have h3 := old k q b1 g e2; have h4 := new g e; omega
    · omega
theorem info2_any {t : TypeId} {s b : Nat} (h : (Tryz.prog.info? t).map (fun i => (i.size, i.bytes)) = some (s, b)) (hz : ((Tryz.prog.info? t).bind (fun i => i.zero.map (·.cells.size))) = some s) : ∃ i z, Tryz.prog.info? t = some i ∧ i.zero = some z ∧ i.size = s ∧ i.bytes = b ∧ z.cells.size = s := by
  cases hq : Tryz.prog.info? t with
  | none => simp [hq] at h
  | some i =>
    simp [hq] at h hz
    obtain ⟨z, h1, h2⟩ := hz
    exact ⟨i, z, rfl, h1, h.1, h.2, h2⟩
theorem in_zero : ((Tryz.prog.info? 100).bind (fun i => i.zero.map (·.cells.size))) = some 36 := by kernel_rfl
theorem out_zero : ((Tryz.prog.info? 102).bind (fun i => i.zero.map (·.cells.size))) = some 2 := by kernel_rfl
theorem owni_append1 {S T S1 T1 : Nat → Prop} {base : Nat} {W W1 : World} {ops : Array Oper} {rest : List Oper} {o : Oper} {a : Act} {Q : Exit → Act → World → Prop} (hgd : o.guard = none) (s x : Operand)
    (ho : o.op = .call { callee := .builtin .append, args := #[s, x], argTypes := #[43, 43] }) {v sv wv : Value} {l : List InD} {cs : List Value} {ps : List (Value × Value)} {d : InD} (hO : OwnI S T base W v l cs ps) (hb0 : base ≤ W.heap.size) (hk : Keeps W W1)
    (hd : RIn S1 T1 W1 sv wv d) (h1 : ∀ g, S1 g ∨ T1 g → W.heap.size ≤ g ∧ g < W1.heap.size) (hdj : ∀ g, S1 g → ¬ T1 g) (hv : a.eval s = v)
    (c : Nat) (TT : TypeId) (cells : Array Value) (hcells : cells = (inCells d sv wv).toArray) (hx : a.eval x = .slice (some ⟨W1.heap.size, 0, none⟩) 1 c) (hn : (l.length + 1) * 96 ≤ 140737488355328)
    (h : ∀ v' w', OwnI (fun g => S g ∨ S1 g) (fun g => T g ∨ T1 g) base w' v' (l ++ [d]) (cs ++ inCells d sv wv) (ps ++ [(sv, wv)]) → Chg (fun k => v.ownBlock = some k) (W1.alloc (.cells cells TT)) w' → SameOrNew (W1.alloc (.cells cells TT)) v v' → wpList Tryz.prog ops Q rest (a.put o.dst v') w') : wpList Tryz.prog ops Q (o :: rest) a (W1.alloc (.cells cells TT)) := by
  subst hcells
  obtain ⟨i0, z0, hi, hz0, hz1, hz2, hz3⟩ := info2_any in_info in_zero
  have hk2 : Keeps W1 (W1.alloc (.cells (inCells d sv wv).toArray TT)) := keeps_alloc (Keeps.refl _) _
  have hlen := inCells_length d sv wv hd.ok.hashLen
  refine wpList_append_buf hgd s x 43 43 ho 100 i0 z0 36 96 Tryz.underlying43 hi hz0 hz1 hz2 hz3 (by decide) v l.length cs hv (hO.buf.keeps (hk.trans hk2)) _ hx 1 (inCells d sv wv)
    (Src.row Tryz.underlying43 (by rw [hlen]) (Row.new (inCells d sv wv) _ TT rfl) (inCells_one d sv wv hd.script.one hd.wit.one)) (by unfold maxLen; omega) hn
    (fun v' w' hb hc hs' _ => h v' w' (hO.after hb0 (hk.trans hk2) (hd.keeps hk2) (fun g hg => ⟨(h1 g hg).1, Nat.lt_of_lt_of_le (h1 g hg).2 hk2.size⟩) hdj hb hc hs') hc hs')
def RInsA (S T R : Nat → Prop) (w : World) (v : Value) (l : List InD) : Prop := ∃ cs ps, RIns S T R w v l cs ps ∧ ApartW ps
theorem RInsA.x {S T R : Nat → Prop} {w : World} {v : Value} {l : List InD} (h : RInsA S T R w v l) : RInsX S T R w v l := by
  obtain ⟨cs, ps, h, _⟩ := h; exact ⟨cs, ps, h⟩
theorem RInsA.chg {S T R X : Nat → Prop} {w w' : World} {v : Value} {l : List InD} (h : RInsA S T R w v l) (hc : Chg X w w') (hs : ∀ g, S g → ¬ X g) (ht : ∀ g, T g → ¬ X g) (hr : ∀ g, R g → ¬ X g) : RInsA S T R w' v l := by
  obtain ⟨cs, ps, h, ha⟩ := h
  exact ⟨cs, ps, ⟨h.rd.chg hc (fun g e => hr g (h.foot g e)), h.plen, fun i p d hp hd => ⟨(h.each i p d hp hd).1.chg hc hs ht, (h.each i p d hp hd).2⟩, h.small, h.foot⟩, ha⟩
theorem RInsA.mono {S T R S' T' R' : Nat → Prop} {w : World} {v : Value} {l : List InD} (h : RInsA S T R w v l) (hs : ∀ g, S g → S' g) (ht : ∀ g, T g → T' g) (hr : ∀ g, R g → R' g) : RInsA S' T' R' w v l := by
  obtain ⟨cs, ps, h, ha⟩ := h
  exact ⟨cs, ps, ⟨h.rd, h.plen, fun i p d hp hd => ⟨(h.each i p d hp hd).1.mono hs ht, (h.each i p d hp hd).2⟩, h.small, fun g e => hr g (h.foot g e)⟩, ha⟩
/-- what was made may be read, and its row written -/
theorem OwnI.insA {S T : Nat → Prop} {base : Nat} {W : World} {v : Value} {l : List InD} {cs : List Value} {ps : List (Value × Value)} (h : OwnI S T base W v l cs ps) (hl : l.length * 96 ≤ 140737488355328) : RInsA S T (fun g => v.ownBlock = some g) W v l :=
  ⟨cs, ps, ⟨h.buf.rd, h.plen, h.each, hl, fun g e => e⟩, h.apart⟩
theorem OwnI.ins {S T : Nat → Prop} {base : Nat} {W : World} {v : Value} {l : List InD} {cs : List Value} {ps : List (Value × Value)} (h : OwnI S T base W v l cs ps) (hl : l.length * 96 ≤ 140737488355328) : RInsX S T (fun g => v.ownBlock = some g) W v l :=
  ⟨cs, ps, h.buf.rd, h.plen, h.each, hl, fun g e => e⟩
theorem wpList_buildSlice1 {ops : Array Oper} {rest : List Oper} {o : Oper} {a : Act} {w : World} {Q : Exit → Act → World → Prop} (hg : o.guard = none) (t e : TypeId) (x : Operand) (ho : o.op = .buildSlice t 1 #[(0, x)]) (s b : Nat)
    (hu : Tryz.prog.underlying t = some (.slice e)) (hi : (Tryz.prog.info? e).map (fun i => (i.size, i.bytes)) = some (s, b)) (hz : ((Tryz.prog.info? e).bind (fun i => i.zero.map (·.cells.size))) = some s) (hs : 0 < s ∧ s ≤ 1000) (l : List Value) (hx : a.eval x = .agg l.toArray) (hl : l.length = s)
    (h : wpList Tryz.prog ops Q rest (a.put o.dst (.slice (some ⟨w.heap.size, 0, none⟩) 1 1)) (w.alloc (.cells l.toArray e))) : wpList Tryz.prog ops Q (o :: rest) a w := by
  obtain ⟨i0, z0, h1, h2, h3, h4, h5⟩ := info2_any hi hz
  refine wpList_buildSlice hg t e 1 #[(0, x)] ho l.toArray i0 z0 hu h1 h2 (by rw [h3]; omega) (by rw [h3]; omega) ?_ h
  rw [h3]
  simp only [List.map_toArray, List.map_cons, List.map_nil, hx]
  exact fill_one l s _ hs.1 hl

/-- a list of outputs of one's own -/
structure OwnO (S : Nat → Prop) (base : Nat) (W : World) (v : Value) (l : List OutD) (cs : List Value) (ps : List Value) : Prop where
  buf : Buf W 2 v l.length cs
  new : ∀ g, v.ownBlock = some g → base ≤ g
  plen : ps.length = l.length
  each : ∀ (i : Nat) (p : Value) (d : OutD), ps[i]? = some p → l[i]? = some d → RB S W p d.script ∧ I64 d.value ∧ (cs.drop (i * 2)).take 2 = outCells d p
  fresh : ∀ g, S g → base ≤ g ∧ g < W.heap.size ∧ v.ownBlock ≠ some g
  one : ∀ u ∈ cs, u.oneCell' = true
theorem OwnO.any {S : Nat → Prop} {base : Nat} {W : World} {v : Value} {l : List OutD} {cs : List Value} {ps : List Value} (h : OwnO S base W v l cs ps) : ∃ a cap, v = .slice a l.length cap := by
  obtain ⟨a, cap, h1, _⟩ := h.buf.any
  exact ⟨a, cap, h1⟩
theorem OwnO.nil (base : Nat) (W : World) : OwnO NoneB base W (.slice none 0 0) [] [] [] :=
  ⟨Buf.nil _ _, fun g h => by simp [Value.ownBlock] at h, rfl, fun i p d h => by simp at h, fun g h => h.elim, fun u h => by simp at h⟩
theorem OwnO.chg {S X : Nat → Prop} {base : Nat} {W W' : World} {v : Value} {l : List OutD} {cs : List Value} {ps : List Value} (h : OwnO S base W v l cs ps) (hc : Chg X W W') (hx : ∀ g, X g → g < base ∨ W.heap.size ≤ g) : OwnO S base W' v l cs ps :=
  have hb : ∀ g, v.ownBlock = some g → g < W.heap.size := fun g e => h.buf.lt e
  ⟨h.buf.chg hc (fun g e hxg => by have h1 := h.new g e; have h2 := hb g e; have := hx g hxg; omega), h.new, h.plen,
    fun i p d hp hd => ⟨(h.each i p d hp hd).1.chg hc (fun g hg hxg => by have h1 := h.fresh g hg; have := hx g hxg; omega), (h.each i p d hp hd).2⟩,
    fun g hg => ⟨(h.fresh g hg).1, Nat.lt_of_lt_of_le (h.fresh g hg).2.1 hc.size, (h.fresh g hg).2.2⟩, h.one⟩
theorem OwnO.keeps {S : Nat → Prop} {base : Nat} {W W' : World} {v : Value} {l : List OutD} {cs : List Value} {ps : List Value} (h : OwnO S base W v l cs ps) (hk : Keeps W W') : OwnO S base W' v l cs ps :=
  h.chg (hk.chg (fun _ => False)) (fun _ h => h.elim)
theorem outCells_one (d : OutD) (sv : Value) (hs : sv.oneCell' = true) : ∀ u ∈ outCells d sv, u.oneCell' = true := by
  intro u hu
  simp only [outCells, List.mem_cons, List.not_mem_nil, or_false] at hu
  rcases hu with rfl | rfl <;> first | rfl | assumption
theorem OwnO.after {S S1 : Nat → Prop} {base : Nat} {W W1 w2 : World} {v v' sv : Value} {l : List OutD} {cs : List Value} {ps : List Value} {d : OutD} (h : OwnO S base W v l cs ps) (hb0 : base ≤ W.heap.size) (hk : Keeps W W1)
    (hd : RB S1 W1 sv d.script) (hv0 : I64 d.value) (h1 : ∀ g, S1 g → W.heap.size ≤ g ∧ g < W1.heap.size)
    (hb : Buf w2 2 v' (l.length + 1) (cs ++ outCells d sv)) (hc : Chg (fun k => v.ownBlock = some k) W1 w2) (hs : SameOrNew W1 v v') :
    OwnO (fun g => S g ∨ S1 g) base w2 v' (l ++ [d]) (cs ++ outCells d sv) (ps ++ [sv]) := by
  have hw := hk.size
  have hvl : ∀ g, v.ownBlock = some g → g < W.heap.size := fun g e => h.buf.lt e
  have hv' : ∀ g, g < W1.heap.size → v.ownBlock ≠ some g → v'.ownBlock ≠ some g := fun g h1 h2 => by
    rcases hs with e | ⟨g', e1, e2⟩
    · rw [e]; exact h2
    · rw [e1]; intro e; cases e; omega
  have hcl : cs.length = l.length * 2 := h.buf.1
  refine ⟨by rw [List.length_append]; exact hb, ?_, by simp [h.plen], ?_, ?_, ?_⟩
  · intro g hg
    rcases hs with e | ⟨g', e1, e2⟩
    · exact h.new g (by rw [← e]; exact hg)
    · rw [hg] at e1; cases e1; omega
  · intro i p d' hp hd'
    by_cases hi : i < l.length
    · have hip : i < ps.length := by rw [h.plen]; exact hi
      rw [List.getElem?_append_left hip] at hp
      rw [List.getElem?_append_left hi] at hd'
      obtain ⟨e1, e3, e2⟩ := h.each i p d' hp hd'
      refine ⟨((e1.keeps hk).chg hc (fun g hg e => (h.fresh g hg).2.2 e)).mono (fun _ => .inl), e3, ?_⟩
      rw [← e2, List.drop_append_of_le_length (by omega), List.take_append_of_le_length (by simp; omega)]
    · have hi' : i = l.length := by
        have := (List.getElem?_eq_some_iff.1 hd').1
        simp at this; omega
      subst hi'
      rw [List.getElem?_append_right (by rw [h.plen]; exact Nat.le_refl _), h.plen] at hp
      rw [List.getElem?_append_right (Nat.le_refl _)] at hd'
      simp at hp hd'
      subst hp hd'
      refine ⟨(hd.chg hc (fun g hg e => by have h2 := h1 g hg; have := hvl g e; omega)).mono (fun _ => .inr), hv0, ?_⟩
      rw [List.drop_append, List.drop_eq_nil_of_le (by omega), hcl, Nat.sub_self, List.drop_zero, List.nil_append, List.take_of_length_le]
      exact Nat.le_refl _
  · intro g hg
    have hcs := hc.size
    rcases hg with hg | hg
    · have h2 := h.fresh g hg; exact ⟨h2.1, by omega, hv' g (by omega) h2.2.2⟩
    · have h2 := h1 g hg; exact ⟨by omega, by omega, hv' g h2.2 (fun e => by have := hvl g e; omega)⟩
  · intro u hu
    rcases List.mem_append.1 hu with hu | hu
    · exact h.one u hu
    · exact outCells_one d sv hd.one u hu
theorem owno_append1 {S S1 : Nat → Prop} {base : Nat} {W W1 : World} {ops : Array Oper} {rest : List Oper} {o : Oper} {a : Act} {Q : Exit → Act → World → Prop} (hgd : o.guard = none) (s x : Operand)
    (ho : o.op = .call { callee := .builtin .append, args := #[s, x], argTypes := #[44, 44] }) {v sv : Value} {l : List OutD} {cs : List Value} {ps : List Value} {d : OutD} (hO : OwnO S base W v l cs ps) (hb0 : base ≤ W.heap.size) (hk : Keeps W W1)
    (hd : RB S1 W1 sv d.script) (hv0 : I64 d.value) (h1 : ∀ g, S1 g → W.heap.size ≤ g ∧ g < W1.heap.size) (hv : a.eval s = v)
    (c : Nat) (TT : TypeId) (cells : Array Value) (hcells : cells = (outCells d sv).toArray) (hx : a.eval x = .slice (some ⟨W1.heap.size, 0, none⟩) 1 c) (hn : (l.length + 1) * 32 ≤ 140737488355328)
    (h : ∀ v' w', OwnO (fun g => S g ∨ S1 g) base w' v' (l ++ [d]) (cs ++ outCells d sv) (ps ++ [sv]) → Chg (fun k => v.ownBlock = some k) (W1.alloc (.cells cells TT)) w' → SameOrNew (W1.alloc (.cells cells TT)) v v' → wpList Tryz.prog ops Q rest (a.put o.dst v') w') : wpList Tryz.prog ops Q (o :: rest) a (W1.alloc (.cells cells TT)) := by
  subst hcells
  obtain ⟨i0, z0, hi, hz0, hz1, hz2, hz3⟩ := info2_any out_info out_zero
  have hk2 : Keeps W1 (W1.alloc (.cells (outCells d sv).toArray TT)) := keeps_alloc (Keeps.refl _) _
  refine wpList_append_buf hgd s x 44 44 ho 102 i0 z0 2 32 Tryz.underlying44 hi hz0 hz1 hz2 hz3 (by decide) v l.length cs hv (hO.buf.keeps (hk.trans hk2)) _ hx 1 (outCells d sv)
    (Src.row Tryz.underlying44 rfl (Row.new (outCells d sv) _ TT rfl) (outCells_one d sv hd.one)) (by unfold maxLen; omega) hn
    (fun v' w' hb hc hs' _ => h v' w' (hO.after hb0 (hk.trans hk2) (hd.keeps hk2) hv0 (fun g hg => ⟨(h1 g hg).1, Nat.lt_of_lt_of_le (h1 g hg).2 hk2.size⟩) hb hc hs') hc hs')
theorem OwnO.outs {S : Nat → Prop} {base : Nat} {W : World} {v : Value} {l : List OutD} {cs : List Value} {ps : List Value} (h : OwnO S base W v l cs ps) (hl : l.length * 32 ≤ 140737488355328) : ROutsX S (fun g => v.ownBlock = some g) W v l :=
  ⟨cs, ps, h.buf.rd, h.plen, h.each, hl, fun g e => e⟩
end Go.Proofs.YtcodpdpeklammaaGreatDoor
