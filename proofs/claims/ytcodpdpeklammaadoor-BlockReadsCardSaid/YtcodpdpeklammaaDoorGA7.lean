/- The reference's Copy of a transaction. -/
import Derived.Test.YtcodpdpeklammaaDoorGA6
namespace Go.Proofs.YtcodpdpeklammaaDoor
set_option linter.unusedVariables false
set_option linter.unusedSimpArgs false
open Go Go.RowKit

theorem sz_tx (a b c d : Value) : (Tryd.prog.info? 61).map (·.size) = some [a, b, c, d].length := by kernel_rfl
theorem sz_point (d : InD) (h : d.hash.length = 32) : (Tryd.prog.info? 103).map (·.size) = some (pointCells d).length := by rw [pointCells_length d h]; kernel_rfl
theorem sl_one (a : Option Addr) (n c : Nat) : (Value.slice a n c).oneCell' = true := rfl
theorem four_one {k k' : IntKind} (x y : Int) (a b : Option Addr) (n m c d : Nat) : ∀ u ∈ [Value.int k x, .slice a n c, .slice b m d, .int k' y], u.oneCell' = true := by
  intro u hu
  simp only [List.mem_cons, List.not_mem_nil, or_false] at hu
  rcases hu with rfl | rfl | rfl | rfl <;> rfl
theorem Row.cell4 {w : World} {b : Nat} {x y z u : Value} (h : Row w b 0 [x, y, z, u]) : w.cell? ⟨b, 0, none⟩ = some x ∧ w.cell? ⟨b, 1, none⟩ = some y ∧ w.cell? ⟨b, 2, none⟩ = some z ∧ w.cell? ⟨b, 3, none⟩ = some u := by
  refine ⟨?_, ?_, ?_, ?_⟩
  · have := (h 0 _ rfl).1; simpa using this
  · have := (h 1 _ rfl).1; simpa using this
  · have := (h 2 _ rfl).1; simpa using this
  · have := (h 3 _ rfl).1; simpa using this
theorem built_inCells (di : InD) (a b : Option Addr) (n m c e : Nat) (h : di.hash.length = 32) : Tryd.prog.built 106 [(0, .agg (pointCells di).toArray), (1, .slice a n c), (2, .int .u32 di.seq), (3, .slice b m e)] = some (inCells di (.slice a n c) (.slice b m e)).toArray := by
  rw [inCells_point]; exact built_in (pointCells di) a b n m c e di.seq (pointCells_length di h)
theorem chg_then {X Y : Nat → Prop} {a b c : World} (h : Chg X a b) (k : Chg Y b c) (hy : ∀ g, Y g → a.heap.size ≤ g ∨ X g) : Chg X a c :=
  ⟨k.os.trans h.os, k.tape.trans h.tape, k.output.trans h.output, Nat.le_trans h.size k.size, fun i hi hx => (k.block i (Nat.lt_of_lt_of_le hi h.size) (fun hyi => by rcases hy i hyi with e | e; omega; exact hx e)).trans (h.block i hi hx)⟩
/-- a transaction of one's own: S: bytes, T: lists of items; all lie in blocks from base on, apart from one another -/
structure OwnTx (S T : Nat → Prop) (base : Nat) (W : World) (iv ov : Value) (d : TxD) : Prop where
  ver : I32 d.ver
  lock : U32 d.lock
  ins : RInsA S T (fun g => iv.ownBlock = some g) W iv d.ins
  outs : ROutsX S (fun g => ov.ownBlock = some g) W ov d.outs
  fresh : ∀ g, S g ∨ T g ∨ iv.ownBlock = some g ∨ ov.ownBlock = some g → base ≤ g ∧ g < W.heap.size
  st : ∀ g, S g → ¬ T g
  iapart : ∀ g, S g ∨ T g → iv.ownBlock ≠ some g
  oapart : ∀ g, S g ∨ T g → ov.ownBlock ≠ some g
  io : ∀ g, iv.ownBlock = some g → ov.ownBlock ≠ some g
theorem OwnTx.chg {S T X : Nat → Prop} {base : Nat} {W W' : World} {iv ov : Value} {d : TxD} (h : OwnTx S T base W iv ov d) (hc : Chg X W W') (hx : ∀ g, X g → g < base ∨ W.heap.size ≤ g) : OwnTx S T base W' iv ov d :=
  have hn : ∀ g, S g ∨ T g ∨ iv.ownBlock = some g ∨ ov.ownBlock = some g → ¬ X g := fun g hg hxg => by have h1 := h.fresh g hg; have := hx g hxg; omega
  ⟨h.ver, h.lock, h.ins.chg hc (fun g hg => hn g (.inl hg)) (fun g hg => hn g (.inr (.inl hg))) (fun g hg => hn g (.inr (.inr (.inl hg)))), h.outs.chg hc (fun g hg => hn g (.inl hg)) (fun g hg => hn g (.inr (.inr (.inr hg)))),
    fun g hg => ⟨(h.fresh g hg).1, Nat.lt_of_lt_of_le (h.fresh g hg).2 hc.size⟩, h.st, h.iapart, h.oapart, h.io⟩
theorem OwnTx.low {S T : Nat → Prop} {base b : Nat} {W : World} {iv ov : Value} {d : TxD} (h : OwnTx S T base W iv ov d) (hb : b ≤ base) : OwnTx S T b W iv ov d :=
  ⟨h.ver, h.lock, h.ins, h.outs, fun g hg => ⟨Nat.le_trans hb (h.fresh g hg).1, (h.fresh g hg).2⟩, h.st, h.iapart, h.oapart, h.io⟩
theorem OwnTx.keeps {S T : Nat → Prop} {base : Nat} {W W' : World} {iv ov : Value} {d : TxD} (h : OwnTx S T base W iv ov d) (hk : Keeps W W') : OwnTx S T base W' iv ov d := h.chg (hk.chg (fun _ => False)) (fun _ h => h.elim)
theorem OwnTx.rtx {S T : Nat → Prop} {base : Nat} {W : World} {iv ov : Value} {d : TxD} (h : OwnTx S T base W iv ov d) : RTx AnyB AnyB AnyB W iv ov d := ⟨h.ver, h.lock, h.ins.x.mono (fun _ _ => trivial) (fun _ _ => trivial) (fun _ _ => trivial), h.outs.mono (fun _ _ => trivial) (fun _ _ => trivial)⟩
theorem wp_rows3 {P : Program} {c : Code} {Q : Exit → Act → World → Prop} {a : Act} {w : World} {A B C : Array Value} {T U V : TypeId}
    (h : ∀ W, Keeps w W → Row W w.heap.size 0 A.toList → Row W (w.heap.size + 1) 0 B.toList → Row W (w.heap.size + 1 + 1) 0 C.toList → W.heap.size = w.heap.size + 3 → Code.wp P c Q a W) :
    Code.wp P c Q a (((w.alloc (.cells A T)).alloc (.cells B U)).alloc (.cells C V)) := by
  have h0 := Row.new (w := w) A.toList A T (by simp)
  have h1 := Row.new (w := w.alloc (.cells A T)) B.toList B U (by simp)
  have h2 := Row.new (w := (w.alloc (.cells A T)).alloc (.cells B U)) C.toList C V (by simp)
  refine h _ (keeps_alloc (keeps_alloc (keeps_alloc (Keeps.refl w) _) _) _) ((h0.alloc _).alloc _) ?_ ?_ (by simp)
  · have := h1.alloc (.cells C V); simpa using this
  · simpa using h2
end Go.Proofs.YtcodpdpeklammaaDoor
