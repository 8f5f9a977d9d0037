/- A slice of bytes of one's own, that is appended to: what it reads, that all older memory stays. No condition. | A transaction as data, and how memory reads as one: nested slices that may be read. No condition. -/
import Derived.Test.YtcodpdpeklammaaGreatDoorGA0
import Derived.Great.BuildSlice
import Derived.Test.YtcodpdpeklammaaGreatDoorChecked
namespace Go.Proofs.YtcodpdpeklammaaGreatDoor
set_option linter.unusedVariables false
set_option linter.unusedSimpArgs false
open Go Go.RowKit

theorem u8_info : (Tryz.prog.info? 5).map (fun i => (i.zero, i.size, i.bytes)) = some (some (.int .u8 0), 1, 1) := by kernel_rfl
def Byte (x : Int) : Prop := 0 ≤ x ∧ x < 256
def Bytes (l : List Int) : Prop := ∀ x ∈ l, Byte x
theorem Bytes.getD {l : List Int} (h : Bytes l) (j : Nat) : Byte (l.getD j 0) := by
  by_cases hj : j < l.length
  · have : l.getD j 0 = l[j] := by simp [hj]
    rw [this]; exact h _ (List.getElem_mem hj)
  · have : l.getD j 0 = 0 := by simp [List.getD, List.getElem?_eq_none (by omega : l.length ≤ j)]
    rw [this]; exact ⟨by omega, by omega⟩
/-- from w on a slice of n bytes has been made in memory of its own: it reads as l; all that was there at w stays -/
structure Own (w W : World) (v : Value) (n : Nat) (l : List Int) : Prop where
  keeps : Keeps w W
  buf : Buf W 1 v n (l.map (Value.int .u8))
  new : ∀ g, v.ownBlock = some g → w.heap.size ≤ g
theorem Own.nil (w : World) : Own w w (.slice none 0 0) 0 [] := ⟨Keeps.refl _, Buf.nil _ _, fun g h => by simp [Value.ownBlock] at h⟩
theorem Own.made (w : World) (T : TypeId) : Own w (w.alloc (.cells #[] T)) (.slice (some ⟨w.heap.size, 0, none⟩) 0 0) 0 [] :=
  ⟨(Keeps.refl w).alloc (Nat.le_refl _) _, Buf.made T, fun g h => by simp [Value.ownBlock] at h; omega⟩
theorem Own.step {w W W' : World} {v : Value} {n : Nat} {l : List Int} (h : Own w W v n l) (hk : Keeps W W') : Own w W' v n l :=
  ⟨h.keeps.trans hk, h.buf.keeps hk, h.new⟩
theorem Own.len {w W : World} {v : Value} {n : Nat} {l : List Int} (h : Own w W v n l) : l.length = n := by have := h.buf.1; simpa using this
theorem Own.rd {w W : World} {v : Value} {n : Nat} {l : List Int} (h : Own w W v n l) : Rd W 1 v n (l.map (Value.int .u8)) := h.buf.rd
theorem Own.any {w W : World} {v : Value} {n : Nat} {l : List Int} (h : Own w W v n l) : ∃ a cap, v = .slice a n cap := by
  obtain ⟨a, cap, h1, _⟩ := h.buf.any
  exact ⟨a, cap, h1⟩
theorem Own.after {w W w1 w2 : World} {v v' : Value} {n m : Nat} {l r : List Int} (h : Own w W v n l) (hk : Keeps W w1) (hb : Buf w2 1 v' (n + m) (l.map (Value.int .u8) ++ r.map (Value.int .u8)))
    (hc : Chg (fun k => v.ownBlock = some k) w1 w2) (hs : SameOrNew w1 v v') : Own w w2 v' (n + m) (l ++ r) := by
  have hk1 := h.keeps.trans hk
  refine ⟨Below.trans hk1 (hc.below hk1.size (fun k hk2 e => by have := h.new k e; omega)), by rw [List.map_append]; exact hb, ?_⟩
  intro g hg
  rcases hs with e | ⟨g', e1, e2⟩
  · exact h.new g (by rw [← e]; exact hg)
  · rw [hg] at e1; cases e1; exact Nat.le_trans hk1.size e2
/-- an append's effect beside what it reads: only the old block is written; the new value lies there or in new memory -/
def Grown (w w' : World) (v v' : Value) : Prop := Chg (fun k => v.ownBlock = some k) w w' ∧ SameOrNew w v v'
/-- x lies in memory that is there, and not where v lies -/
def Apart (w : World) (x v : Value) : Prop := ∀ g, x.ownBlock = some g → g < w.heap.size ∧ v.ownBlock ≠ some g
theorem Apart.grown {w w' : World} {x v v' : Value} (h : Apart w x v) (hg : Grown w w' v v') : Apart w' x v' := by
  intro g e
  obtain ⟨h1, h2⟩ := h g e
  refine ⟨Nat.lt_of_lt_of_le h1 hg.1.size, ?_⟩
  rcases hg.2 with e2 | ⟨g', e2, e3⟩
  · rw [e2]; exact h2
  · rw [e2]; intro e4; cases e4; omega
theorem Rd.grown {w w' : World} {x v v' : Value} {size n : Nat} {xs : List Value} (h : Rd w size x n xs) (ha : Apart w x v) (hg : Grown w w' v v') : Rd w' size x n xs :=
  h.chg hg.1 (fun g e e2 => (ha g e).2 e2)
theorem Grown.keeps {w w1 w' : World} {v v' : Value} (hk : Keeps w w1) (h : Grown w1 w' v v') : Grown w w' v v' := by
  refine ⟨(hk.chg _).trans h.1, ?_⟩
  rcases h.2 with e | ⟨g, e1, e2⟩
  · exact .inl e
  · exact .inr ⟨g, e1, Nat.le_trans hk.size e2⟩
theorem own_append {w W W1 : World} {ops : Array Oper} {rest : List Oper} {o : Oper} {a : Act} {Q : Exit → Act → World → Prop} (hgd : o.guard = none) (s x : Operand)
    (ho : o.op = .call { callee := .builtin .append, args := #[s, x], argTypes := #[32, 32] }) {v : Value} {n : Nat} {l : List Int} (hO : Own w W v n l) (hk : Keeps W W1) (hv : a.eval s = v)
    (xv : Value) (hx : a.eval x = xv) (m : Nat) (r : List Int) (hs : Src Tryz.prog 1 32 xv m (r.map (Value.int .u8)) W1) (hn : n + m ≤ 140737488355328)
    (h : ∀ v' w', Own w w' v' (n + m) (l ++ r) → Grown W1 w' v v' → wpList Tryz.prog ops Q rest (a.put o.dst v') w') : wpList Tryz.prog ops Q (o :: rest) a W1 := by
  obtain ⟨i0, hi, hz0, hz1, hz2⟩ := info_parts u8_info
  exact wpList_append_buf hgd s x 32 32 ho 5 i0 (.int .u8 0) 1 1 Tryz.underlying32 hi hz0 hz1 hz2 rfl (by decide) v n _ hv (hO.buf.keeps hk) xv hx m _ hs (by unfold maxLen; omega) (by omega)
    (fun v' w' hb hc hs' _ => h v' w' (hO.after hk hb hc hs') ⟨hc, hs'⟩)
/-- one byte more -/
theorem own_append1 {w W : World} {ops : Array Oper} {rest : List Oper} {o : Oper} {a : Act} {Q : Exit → Act → World → Prop} (hgd : o.guard = none) (s x : Operand)
    (ho : o.op = .call { callee := .builtin .append, args := #[s, x], argTypes := #[32, 32] }) {v : Value} {n : Nat} {l : List Int} (hO : Own w W v n l) (hv : a.eval s = v)
    (c : Nat) (k : Int) (T : TypeId) (hx : a.eval x = .slice (some ⟨W.heap.size, 0, none⟩) 1 c) (hn : n < 140737488355328)
    (h : ∀ v' w', Own w w' v' (n + 1) (l ++ [k]) → Grown W w' v v' → wpList Tryz.prog ops Q rest (a.put o.dst v') w') : wpList Tryz.prog ops Q (o :: rest) a (W.alloc (.cells #[.int .u8 k] T)) :=
  own_append hgd s x ho hO ((Keeps.refl W).alloc (Nat.le_refl _) _) hv _ hx 1 [k] (Src.row Tryz.underlying32 (by simp) (Row.new [.int .u8 k] _ T rfl) (int_oneCell [k])) (by omega) (fun v' w' h1 h2 => h v' w' h1 (h2.keeps ((Keeps.refl W).alloc (Nat.le_refl _) _)))
def slLen : Value → Nat
  | .slice _ n _ => n
  | _ => 0
structure InD where
  hash : List Int
  index : Int
  script : List Int
  seq : Int
  wit : List (List Int)
structure OutD where
  value : Int
  script : List Int
structure TxD where
  ver : Int
  ins : List InD
  outs : List OutD
  lock : Int

def U32 (x : Int) : Prop := 0 ≤ x ∧ x < 4294967296
def I64 (x : Int) : Prop := -9223372036854775808 ≤ x ∧ x < 9223372036854775808
def I32 (x : Int) : Prop := -2147483648 ≤ x ∧ x < 2147483648

/-- a slice of bytes that may be read; the blocks that are read belong to S -/
structure RB (S : Nat → Prop) (w : World) (v : Value) (l : List Int) : Prop where
  rd : Rd w 1 v l.length (l.map (Value.int .u8))
  bytes : Bytes l
  small : l.length ≤ 140737488355328
  foot : ∀ g, v.ownBlock = some g → S g
theorem RB.any {S : Nat → Prop} {w : World} {v : Value} {l : List Int} (h : RB S w v l) : ∃ a cap, v = .slice a l.length cap ∧ l.length ≤ cap ∧ cap ≤ maxLen ∧ (a = none → l.length = 0 ∧ cap = 0) := by
  obtain ⟨_, a, cap, h1, h2, h3, h4, _⟩ := h.rd
  exact ⟨a, cap, h1, h2, h3, h4⟩
theorem RB.chg {S T : Nat → Prop} {w w' : World} {v : Value} {l : List Int} (h : RB S w v l) (hc : Chg T w w') (hs : ∀ g, S g → ¬ T g) : RB S w' v l :=
  ⟨h.rd.chg hc (fun g e => hs g (h.foot g e)), h.bytes, h.small, h.foot⟩
theorem RB.keeps {S : Nat → Prop} {w w' : World} {v : Value} {l : List Int} (h : RB S w v l) (hc : Keeps w w') : RB S w' v l :=
  ⟨h.rd.keeps hc, h.bytes, h.small, h.foot⟩
theorem RB.mono {S T : Nat → Prop} {w : World} {v : Value} {l : List Int} (h : RB S w v l) (hs : ∀ g, S g → T g) : RB T w v l :=
  ⟨h.rd, h.bytes, h.small, fun g e => hs g (h.foot g e)⟩
theorem RB.take {S : Nat → Prop} {w : World} {a : Option Addr} {n cap : Nat} {l : List Int} (h : RB S w (.slice a n cap) l) (m : Nat) (hm : m ≤ l.length) : RB S w (.slice a m cap) (l.take m) := by
  obtain ⟨⟨h0, a', cap', e, h2, h3, h4, h5⟩, hb, hsm, hf⟩ := h
  cases e
  have hl : (l.take m).length = m := by simp; omega
  refine ⟨⟨by simp, a, cap, by rw [hl], by omega, h3, fun e => by have := h4 e; omega, fun ad e hn => ?_⟩, fun x hx => hb x (List.mem_of_mem_take hx), by omega, fun g e => hf g (by cases a with | none => simp [Value.ownBlock] at e | some _ => simpa [Value.ownBlock] using e)⟩
  obtain ⟨g, off, e2, hg, hr⟩ := h5 ad e (by omega)
  exact ⟨g, off, e2, hg, by rw [List.map_take]; exact hr.take _⟩

/-- a slice of such slices -/
structure RL (S T : Nat → Prop) (w : World) (v : Value) (ls : List (List Int)) (vs : List Value) : Prop where
  rd : Rd w 1 v ls.length vs
  each : ∀ (i : Nat) (u : Value) (l : List Int), vs[i]? = some u → ls[i]? = some l → RB S w u l
  small : ls.length * 24 ≤ 140737488355328
  foot : ∀ g, v.ownBlock = some g → T g
def RLL (S T : Nat → Prop) (w : World) (v : Value) (ls : List (List Int)) : Prop := ∃ vs, RL S T w v ls vs
theorem RL.any {S T : Nat → Prop} {w : World} {v : Value} {ls : List (List Int)} {vs : List Value} (h : RL S T w v ls vs) : ∃ a cap, v = .slice a ls.length cap ∧ ls.length ≤ cap ∧ cap ≤ maxLen ∧ (a = none → ls.length = 0 ∧ cap = 0) := by
  obtain ⟨_, a, cap, h1, h2, h3, h4, _⟩ := h.rd
  exact ⟨a, cap, h1, h2, h3, h4⟩
theorem RLL.any {S T : Nat → Prop} {w : World} {v : Value} {ls : List (List Int)} (h : RLL S T w v ls) : ∃ a cap, v = .slice a ls.length cap ∧ ls.length ≤ cap ∧ cap ≤ maxLen ∧ (a = none → ls.length = 0 ∧ cap = 0) := h.elim fun _ h => h.any
theorem RL.len {S T : Nat → Prop} {w : World} {v : Value} {ls : List (List Int)} {vs : List Value} (h : RL S T w v ls vs) : vs.length = ls.length := by have := h.rd.1; omega
theorem RL.keeps {S T : Nat → Prop} {w w' : World} {v : Value} {ls : List (List Int)} {vs : List Value} (h : RL S T w v ls vs) (hc : Keeps w w') : RL S T w' v ls vs :=
  ⟨h.rd.keeps hc, fun i u l hu hl => (h.each i u l hu hl).keeps hc, h.small, h.foot⟩
theorem RLL.keeps {S T : Nat → Prop} {w w' : World} {v : Value} {ls : List (List Int)} (h : RLL S T w v ls) (hc : Keeps w w') : RLL S T w' v ls := h.elim fun vs h => ⟨vs, h.keeps hc⟩
theorem RL.chg {S T R : Nat → Prop} {w w' : World} {v : Value} {ls : List (List Int)} {vs : List Value} (h : RL S T w v ls vs) (hc : Chg R w w') (hs : ∀ g, S g → ¬ R g) (ht : ∀ g, T g → ¬ R g) : RL S T w' v ls vs :=
  ⟨h.rd.chg hc (fun g e => ht g (h.foot g e)), fun i u l hu hl => (h.each i u l hu hl).chg hc hs, h.small, h.foot⟩
theorem RLL.chg {S T R : Nat → Prop} {w w' : World} {v : Value} {ls : List (List Int)} (h : RLL S T w v ls) (hc : Chg R w w') (hs : ∀ g, S g → ¬ R g) (ht : ∀ g, T g → ¬ R g) : RLL S T w' v ls := h.elim fun vs h => ⟨vs, h.chg hc hs ht⟩
theorem RL.mono {S T S' T' : Nat → Prop} {w : World} {v : Value} {ls : List (List Int)} {vs : List Value} (h : RL S T w v ls vs) (hs : ∀ g, S g → S' g) (ht : ∀ g, T g → T' g) : RL S' T' w v ls vs :=
  ⟨h.rd, fun i u l hu hl => (h.each i u l hu hl).mono hs, h.small, fun g e => ht g (h.foot g e)⟩
theorem RLL.mono {S T S' T' : Nat → Prop} {w : World} {v : Value} {ls : List (List Int)} (h : RLL S T w v ls) (hs : ∀ g, S g → S' g) (ht : ∀ g, T g → T' g) : RLL S' T' w v ls := h.elim fun vs h => ⟨vs, h.mono hs ht⟩
/-- the element's cell, and what it reads -/
theorem RL.at {S T : Nat → Prop} {w : World} {a : Option Addr} {n cap : Nat} {ls : List (List Int)} {vs : List Value} (h : RL S T w (.slice a n cap) ls vs) (i : Nat) (hi : i < ls.length) :
    ∃ g off u, a = some ⟨g, off, none⟩ ∧ g < w.heap.size ∧ w.cell? ⟨g, off + i, none⟩ = some u ∧ w.frozen? ⟨g, off + i, none⟩ = false ∧ vs[i]? = some u ∧ RB S w u (ls.getD i []) := by
  obtain ⟨h0, a', cap', e, h2, h3, h4, h5⟩ := h.rd
  cases e
  cases a with
  | none => have := h4 rfl; omega
  | some ad =>
    obtain ⟨g, off, rfl, hg, hr⟩ := h5 _ rfl (by omega)
    have hv : vs[i]? = some (vs[i]'(by omega)) := List.getElem?_eq_getElem (by omega)
    obtain ⟨c, f⟩ := hr i _ hv
    exact ⟨g, off, _, rfl, hg, c, f, hv, h.each i _ _ hv (by simp [List.getD, hi])⟩
theorem RLL.at {S T : Nat → Prop} {w : World} {a : Option Addr} {n cap : Nat} {ls : List (List Int)} (h : RLL S T w (.slice a n cap) ls) (i : Nat) (hi : i < ls.length) :
    ∃ g off u, a = some ⟨g, off, none⟩ ∧ g < w.heap.size ∧ w.cell? ⟨g, off + i, none⟩ = some u ∧ RB S w u (ls.getD i []) := h.elim fun vs h => by
  obtain ⟨g, off, u, h1, h2, h3, _, _, h4⟩ := h.at i hi
  exact ⟨g, off, u, h1, h2, h3, h4⟩

/-- the cells of an input -/
def inCells (d : InD) (sv wv : Value) : List Value := d.hash.map (Value.int .u8) ++ [.int .u32 d.index, sv, .int .u32 d.seq, wv]
def outCells (d : OutD) (sv : Value) : List Value := [.int .i64 d.value, sv]
theorem inCells_length (d : InD) (sv wv : Value) (h : d.hash.length = 32) : (inCells d sv wv).length = 36 := by simp [inCells, h]
structure InD.Ok (d : InD) : Prop where
  hashLen : d.hash.length = 32
  hash : Bytes d.hash
  index : U32 d.index
  seq : U32 d.seq
/-- S: the blocks of scripts and items; T: those of the lists of items -/
structure RIn (S T : Nat → Prop) (w : World) (sv wv : Value) (d : InD) : Prop where
  ok : d.Ok
  script : RB S w sv d.script
  wit : RLL S T w wv d.wit
theorem RIn.keeps {S T : Nat → Prop} {w w' : World} {sv wv : Value} {d : InD} (h : RIn S T w sv wv d) (hc : Keeps w w') : RIn S T w' sv wv d := ⟨h.ok, h.script.keeps hc, h.wit.keeps hc⟩
theorem RIn.chg {S T R : Nat → Prop} {w w' : World} {sv wv : Value} {d : InD} (h : RIn S T w sv wv d) (hc : Chg R w w') (hs : ∀ g, S g → ¬ R g) (ht : ∀ g, T g → ¬ R g) : RIn S T w' sv wv d := ⟨h.ok, h.script.chg hc hs, h.wit.chg hc hs ht⟩
theorem RIn.mono {S T S' T' : Nat → Prop} {w : World} {sv wv : Value} {d : InD} (h : RIn S T w sv wv d) (hs : ∀ g, S g → S' g) (ht : ∀ g, T g → T' g) : RIn S' T' w sv wv d := ⟨h.ok, h.script.mono hs, h.wit.mono hs ht⟩
/-- a slice of inputs: ps: where their scripts and items lie -/
structure RIns (S T R : Nat → Prop) (w : World) (v : Value) (l : List InD) (cs : List Value) (ps : List (Value × Value)) : Prop where
  rd : Rd w 36 v l.length cs
  plen : ps.length = l.length
  each : ∀ (i : Nat) (p : Value × Value) (d : InD), ps[i]? = some p → l[i]? = some d → RIn S T w p.1 p.2 d ∧ (cs.drop (i * 36)).take 36 = inCells d p.1 p.2
  small : l.length * 96 ≤ 140737488355328
  foot : ∀ g, v.ownBlock = some g → R g
def RInsX (S T R : Nat → Prop) (w : World) (v : Value) (l : List InD) : Prop := ∃ cs ps, RIns S T R w v l cs ps
theorem RInsX.any {S T R : Nat → Prop} {w : World} {v : Value} {l : List InD} (h : RInsX S T R w v l) : ∃ a cap, v = .slice a l.length cap ∧ l.length ≤ cap ∧ cap ≤ maxLen ∧ (a = none → l.length = 0 ∧ cap = 0) := by
  obtain ⟨cs, ps, h⟩ := h
  obtain ⟨_, a, cap, h1, h2, h3, h4, _⟩ := h.rd
  exact ⟨a, cap, h1, h2, h3, h4⟩
theorem RInsX.keeps {S T R : Nat → Prop} {w w' : World} {v : Value} {l : List InD} (h : RInsX S T R w v l) (hc : Keeps w w') : RInsX S T R w' v l := by
  obtain ⟨cs, ps, h⟩ := h
  exact ⟨cs, ps, h.rd.keeps hc, h.plen, fun i p d hp hd => ⟨(h.each i p d hp hd).1.keeps hc, (h.each i p d hp hd).2⟩, h.small, h.foot⟩
theorem RInsX.chg {S T R X : Nat → Prop} {w w' : World} {v : Value} {l : List InD} (h : RInsX S T R w v l) (hc : Chg X w w') (hs : ∀ g, S g → ¬ X g) (ht : ∀ g, T g → ¬ X g) (hr : ∀ g, R g → ¬ X g) : RInsX S T R w' v l := by
  obtain ⟨cs, ps, h⟩ := h
  exact ⟨cs, ps, h.rd.chg hc (fun g e => hr g (h.foot g e)), h.plen, fun i p d hp hd => ⟨(h.each i p d hp hd).1.chg hc hs ht, (h.each i p d hp hd).2⟩, h.small, h.foot⟩
theorem RInsX.mono {S T R S' T' R' : Nat → Prop} {w : World} {v : Value} {l : List InD} (h : RInsX S T R w v l) (hs : ∀ g, S g → S' g) (ht : ∀ g, T g → T' g) (hr : ∀ g, R g → R' g) : RInsX S' T' R' w v l := by
  obtain ⟨cs, ps, h⟩ := h
  exact ⟨cs, ps, h.rd, h.plen, fun i p d hp hd => ⟨(h.each i p d hp hd).1.mono hs ht, (h.each i p d hp hd).2⟩, h.small, fun g e => hr g (h.foot g e)⟩
/-- the element's row -/
theorem RInsX.at {S T R : Nat → Prop} {w : World} {a : Option Addr} {n cap : Nat} {l : List InD} (h : RInsX S T R w (.slice a n cap) l) (i : Nat) (hi : i < l.length) :
    ∃ g off sv wv d, a = some ⟨g, off, none⟩ ∧ g < w.heap.size ∧ l[i]? = some d ∧ Row w g (off + i * 36) (inCells d sv wv) ∧ RIn S T w sv wv d := by
  obtain ⟨cs, ps, h⟩ := h
  obtain ⟨h0, a', cap', e, h2, h3, h4, h5⟩ := h.rd
  cases e
  have hpl := h.plen
  cases a with
  | none => have := h4 rfl; omega
  | some ad =>
    obtain ⟨g, off, rfl, hg, hr⟩ := h5 _ rfl (by omega)
    have hp : ps[i]? = some (ps[i]'(by omega)) := List.getElem?_eq_getElem (by omega)
    have hd : l[i]? = some (l[i]'hi) := List.getElem?_eq_getElem hi
    obtain ⟨h6, h7⟩ := h.each i _ _ hp hd
    refine ⟨g, off, _, _, _, rfl, hg, hd, ?_, h6⟩
    rw [← h7]
    exact (hr.drop (i * 36)).take 36
theorem at_index {w : World} {b o : Nat} {d : InD} {sv wv : Value} (h : Row w b o (inCells d sv wv)) (hl : d.hash.length = 32) :
    w.cell? ⟨b, o + 32, none⟩ = some (.int .u32 d.index) ∧ w.cell? ⟨b, o + 33, none⟩ = some sv ∧ w.cell? ⟨b, o + 34, none⟩ = some (.int .u32 d.seq) ∧ w.cell? ⟨b, o + 35, none⟩ = some wv := by
  refine ⟨(h 32 _ ?_).1, (h 33 _ ?_).1, (h 34 _ ?_).1, (h 35 _ ?_).1⟩ <;> (unfold inCells; rw [List.getElem?_append_right (by simp [hl])]; simp [hl])

structure ROuts (S R : Nat → Prop) (w : World) (v : Value) (l : List OutD) (cs : List Value) (ps : List Value) : Prop where
  rd : Rd w 2 v l.length cs
  plen : ps.length = l.length
  each : ∀ (i : Nat) (p : Value) (d : OutD), ps[i]? = some p → l[i]? = some d → RB S w p d.script ∧ I64 d.value ∧ (cs.drop (i * 2)).take 2 = outCells d p
  small : l.length * 32 ≤ 140737488355328
  foot : ∀ g, v.ownBlock = some g → R g
def ROutsX (S R : Nat → Prop) (w : World) (v : Value) (l : List OutD) : Prop := ∃ cs ps, ROuts S R w v l cs ps
theorem ROutsX.any {S R : Nat → Prop} {w : World} {v : Value} {l : List OutD} (h : ROutsX S R w v l) : ∃ a cap, v = .slice a l.length cap ∧ l.length ≤ cap ∧ cap ≤ maxLen ∧ (a = none → l.length = 0 ∧ cap = 0) := by
  obtain ⟨cs, ps, h⟩ := h
  obtain ⟨_, a, cap, h1, h2, h3, h4, _⟩ := h.rd
  exact ⟨a, cap, h1, h2, h3, h4⟩
theorem ROutsX.keeps {S R : Nat → Prop} {w w' : World} {v : Value} {l : List OutD} (h : ROutsX S R w v l) (hc : Keeps w w') : ROutsX S R w' v l := by
  obtain ⟨cs, ps, h⟩ := h
  exact ⟨cs, ps, h.rd.keeps hc, h.plen, fun i p d hp hd => ⟨(h.each i p d hp hd).1.keeps hc, (h.each i p d hp hd).2⟩, h.small, h.foot⟩
theorem ROutsX.chg {S R X : Nat → Prop} {w w' : World} {v : Value} {l : List OutD} (h : ROutsX S R w v l) (hc : Chg X w w') (hs : ∀ g, S g → ¬ X g) (hr : ∀ g, R g → ¬ X g) : ROutsX S R w' v l := by
  obtain ⟨cs, ps, h⟩ := h
  exact ⟨cs, ps, h.rd.chg hc (fun g e => hr g (h.foot g e)), h.plen, fun i p d hp hd => ⟨(h.each i p d hp hd).1.chg hc hs, (h.each i p d hp hd).2⟩, h.small, h.foot⟩
theorem ROutsX.mono {S R S' R' : Nat → Prop} {w : World} {v : Value} {l : List OutD} (h : ROutsX S R w v l) (hs : ∀ g, S g → S' g) (hr : ∀ g, R g → R' g) : ROutsX S' R' w v l := by
  obtain ⟨cs, ps, h⟩ := h
  exact ⟨cs, ps, h.rd, h.plen, fun i p d hp hd => ⟨(h.each i p d hp hd).1.mono hs, (h.each i p d hp hd).2⟩, h.small, fun g e => hr g (h.foot g e)⟩
theorem ROutsX.at {S R : Nat → Prop} {w : World} {a : Option Addr} {n cap : Nat} {l : List OutD} (h : ROutsX S R w (.slice a n cap) l) (i : Nat) (hi : i < l.length) :
    ∃ g off sv d, a = some ⟨g, off, none⟩ ∧ g < w.heap.size ∧ l[i]? = some d ∧ Row w g (off + i * 2) (outCells d sv) ∧ RB S w sv d.script ∧ I64 d.value := by
  obtain ⟨cs, ps, h⟩ := h
  obtain ⟨h0, a', cap', e, h2, h3, h4, h5⟩ := h.rd
  cases e
  have hpl := h.plen
  cases a with
  | none => have := h4 rfl; omega
  | some ad =>
    obtain ⟨g, off, rfl, hg, hr⟩ := h5 _ rfl (by omega)
    have hp : ps[i]? = some (ps[i]'(by omega)) := List.getElem?_eq_getElem (by omega)
    have hd : l[i]? = some (l[i]'hi) := List.getElem?_eq_getElem hi
    obtain ⟨h6, h8, h7⟩ := h.each i _ _ hp hd
    refine ⟨g, off, _, _, rfl, hg, hd, ?_, h6, h8⟩
    rw [← h7]
    exact (hr.drop (i * 2)).take 2
theorem at_value {w : World} {b o : Nat} {d : OutD} {sv : Value} (h : Row w b o (outCells d sv)) :
    w.cell? ⟨b, o, none⟩ = some (.int .i64 d.value) ∧ w.cell? ⟨b, o + 1, none⟩ = some sv := ⟨by have := (h 0 _ rfl).1; simpa using this, (h 1 _ rfl).1⟩

/-- everything -/
def AnyB : Nat → Prop := fun _ => True
structure RTx (S T R : Nat → Prop) (w : World) (iv ov : Value) (d : TxD) : Prop where
  ver : I32 d.ver
  lock : U32 d.lock
  ins : RInsX S T R w iv d.ins
  outs : ROutsX S R w ov d.outs
theorem RTx.keeps {S T R : Nat → Prop} {w w' : World} {iv ov : Value} {d : TxD} (h : RTx S T R w iv ov d) (hc : Keeps w w') : RTx S T R w' iv ov d := ⟨h.ver, h.lock, h.ins.keeps hc, h.outs.keeps hc⟩
theorem RTx.chg {S T R X : Nat → Prop} {w w' : World} {iv ov : Value} {d : TxD} (h : RTx S T R w iv ov d) (hc : Chg X w w') (hs : ∀ g, S g → ¬ X g) (ht : ∀ g, T g → ¬ X g) (hr : ∀ g, R g → ¬ X g) : RTx S T R w' iv ov d := ⟨h.ver, h.lock, h.ins.chg hc hs ht hr, h.outs.chg hc hs hr⟩
theorem RTx.mono {S T R S' T' R' : Nat → Prop} {w : World} {iv ov : Value} {d : TxD} (h : RTx S T R w iv ov d) (hs : ∀ g, S g → S' g) (ht : ∀ g, T g → T' g) (hr : ∀ g, R g → R' g) : RTx S' T' R' w iv ov d := ⟨h.ver, h.lock, h.ins.mono hs ht hr, h.outs.mono hs hr⟩
end Go.Proofs.YtcodpdpeklammaaGreatDoor
