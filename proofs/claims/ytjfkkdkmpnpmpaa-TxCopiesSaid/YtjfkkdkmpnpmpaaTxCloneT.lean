/- tx.Clone: the state of its loops, and what each store does to it. No condition. -/
import Derived.Test.YtjfkkdkmpnpmpaaTxCloneL
namespace Go.Proofs.Ytjfkkdkmpnpmpaa
set_option linter.unusedVariables false
set_option linter.unusedSimpArgs false
open Go Go.RowKit

structure CloSt (w : World) (p : Nat) (d : TxD) (S T : Nat → Prop) (W : World) (v vo : Value) (i m : Nat) (cs : List Value) (ps : List (Value × Value)) (cs2 ps2 : List Value) : Prop where
  keeps : Keeps w W
  row : Row W p 0 [.int .i32 d.ver, v, vo, .int .u32 d.lock]
  row2 : Row W (p + 1) 0 [.int .i32 0, .slice none 0 0, .slice none 0 0, .int .u32 0]
  g : CloG W v d.ins cs ps
  e : CloE S T w.heap.size W d.ins ps i m
  new : ∀ g, v.ownBlock = some g → w.heap.size + 2 ≤ g ∧ g < W.heap.size ∧ ¬ S g ∧ ¬ T g
  o : CloO NoneB w.heap.size W vo d.outs cs2 ps2 0
  onew : ∀ g, vo.ownBlock = some g → w.heap.size + 2 ≤ g ∧ g < W.heap.size ∧ ¬ S g ∧ ¬ T g ∧ v.ownBlock ≠ some g
  hp : p = w.heap.size
section
variable {w W : World} {p : Nat} {d : TxD} {S T : Nat → Prop} {v vo : Value} {i m : Nat} {cs : List Value} {ps : List (Value × Value)} {cs2 ps2 : List Value}
theorem CloSt.keep {W' : World} (h : CloSt w p d S T W v vo i m cs ps cs2 ps2) (hk : Keeps W W') : CloSt w p d S T W' v vo i m cs ps cs2 ps2 :=
  ⟨h.keeps.trans hk, h.row.keeps hk, h.row2.keeps hk, h.g.keeps hk, h.e.keeps hk, fun g e => ⟨(h.new g e).1, Nat.lt_of_lt_of_le (h.new g e).2.1 hk.size, (h.new g e).2.2⟩, h.o.keeps hk, fun g e => ⟨(h.onew g e).1, Nat.lt_of_lt_of_le (h.onew g e).2.1 hk.size, (h.onew g e).2.2⟩, h.hp⟩
/-- more blocks of one's own, laid behind W0 -/
theorem CloSt.grow {W0 : World} {S1 T1 : Nat → Prop} (h0 : CloSt w p d S T W0 v vo i m cs ps cs2 ps2) (hk : Keeps W0 W) (h1 : ∀ g, S1 g ∨ T1 g → W0.heap.size ≤ g ∧ g < W.heap.size) (hd : ∀ g, S1 g → ¬ T1 g) :
    CloSt w p d (fun g => S g ∨ S1 g) (fun g => T g ∨ T1 g) W v vo i m cs ps cs2 ps2 := by
  have h := h0.keep hk
  have hB : w.heap.size + 2 ≤ W0.heap.size := by
    have a := h0.row2.lt (by simp)
    have b := h0.hp
    omega
  refine ⟨h.keeps, h.row, h.row2, h.g, h.e.mono (fun _ => .inl) (fun _ => .inl) ?_ ?_, fun g e => ⟨(h.new g e).1, (h.new g e).2.1, ?_, ?_⟩, h.o, fun g e => ⟨(h.onew g e).1, (h.onew g e).2.1, ?_, ?_, (h.onew g e).2.2.2.2⟩, h.hp⟩
  · intro g hg
    rcases hg with (a | a) | (a | a)
    · exact h.e.fresh g (.inl a)
    · have := h1 g (.inl a); omega
    · exact h.e.fresh g (.inr a)
    · have := h1 g (.inr a); omega
  · intro g hs ht
    rcases hs with a | a <;> rcases ht with b | b
    · exact h.e.disj g a b
    · have h2 := h0.e.fresh g (.inl a); have h3 := h1 g (.inr b); omega
    · have h2 := h0.e.fresh g (.inr b); have h3 := h1 g (.inl a); omega
    · exact hd g a b
  · rintro (a | a)
    · exact (h.new g e).2.2.1 a
    · have h2 := h0.new g e; have h3 := h1 g (.inl a); omega
  · rintro (a | a)
    · exact (h.new g e).2.2.2 a
    · have h2 := h0.new g e; have h3 := h1 g (.inr a); omega
  · rintro (a | a)
    · exact (h.onew g e).2.2.1 a
    · have h2 := h0.onew g e; have h3 := h1 g (.inl a); omega
  · rintro (a | a)
    · exact (h.onew g e).2.2.2.1 a
    · have h2 := h0.onew g e; have h3 := h1 g (.inr a); omega
end
section
variable {w W : World} {p : Nat} {d : TxD} {S T : Nat → Prop} {vo : Value} {i m : Nat} {cs : List Value} {ps : List (Value × Value)} {cs2 ps2 : List Value} {g off n cap : Nat}
/-- a part of the entry at i is written anew -/
theorem CloSt.put (h : CloSt w p d S T W (.slice (some ⟨g, off, none⟩) n cap) vo i m cs ps cs2 ps2) (hm : m ≤ i + 1) {di : InD} (hd : d.ins[i]? = some di) {q : Value × Value} (hq : ps[i]? = some q) (k : Nat) (hk : k < 36) (u : Value) (q' : Value × Value) (hc : (inCells di q.1 q.2).set k u = inCells di q'.1 q'.2) :
    CloSt w p d S T (W.setCell ⟨g, off + i * 36 + k, none⟩ u) (.slice (some ⟨g, off, none⟩) n cap) vo i (i + 1) (cs.set (i * 36 + k) u) (ps.set i q') cs2 ps2 := by
  have hx := Chg.cell (W := W) g (off + i * 36 + k) u
  have hn := h.new g rfl
  have hp := h.hp
  have hS : ∀ b, S b → b ≠ g := fun b hb e => hn.2.2.1 (by rw [← e]; exact hb)
  refine ⟨keeps_chg h.keeps hx (by omega), h.row.other (show p ≠ g by omega) _, h.row2.other (show p + 1 ≠ g by omega) _, h.g.put hd hq k hk u q' hc, ?_, fun b e => ⟨(h.new b e).1, by simpa using (h.new b e).2.1, (h.new b e).2.2⟩, ?_, fun b e => ⟨(h.onew b e).1, by simpa using (h.onew b e).2.1, (h.onew b e).2.2⟩, h.hp⟩
  · refine (h.e.other hx hS (by omega) (fun k q hk hq e => ?_)).hole hm q'
    by_cases hki : k < d.ins.length
    · exact hn.2.2.2 ((h.e.done k q _ hk hq (List.getElem?_eq_getElem hki)).wit.foot g e)
    · have h1 := (List.getElem?_eq_some_iff.1 hq).1
      have h2 := h.g.plen
      omega
  · exact h.o.other hx (fun e => (h.onew g e).2.2.2.2 rfl) (fun b hb => hb.elim) (by omega)
end
section
variable {w W : World} {p : Nat} {d : TxD} {S T : Nat → Prop} {v vo : Value} {i m : Nat} {cs : List Value} {ps : List (Value × Value)} {cs2 ps2 : List Value}
/-- an item is written anew, in the list of items of the entry at i -/
theorem CloSt.item (h : CloSt w p d S T W v vo i m cs ps cs2 ps2) {gw o : Nat} (u : Value) (hT : T gw) (ha : ∀ (k : Nat) (q : Value × Value), k < i → ps[k]? = some q → q.2.ownBlock ≠ some gw) :
    CloSt w p d S T (W.setCell ⟨gw, o, none⟩ u) v vo i m cs ps cs2 ps2 := by
  have hx := Chg.cell (W := W) gw o u
  have hf := h.e.fresh gw (.inr hT)
  have hp := h.hp
  have hS : ∀ b, S b → b ≠ gw := fun b hb e => h.e.disj b hb (by rw [e]; exact hT)
  refine ⟨keeps_chg h.keeps hx (by omega), h.row.other (show p ≠ gw by omega) _, h.row2.other (show p + 1 ≠ gw by omega) _, h.g.chg hx (fun b e e2 => (h.new b e).2.2.2 (by rw [e2]; exact hT)), h.e.other hx hS (by omega) ha, fun b e => ⟨(h.new b e).1, by simpa using (h.new b e).2.1, (h.new b e).2.2⟩, ?_, fun b e => ⟨(h.onew b e).1, by simpa using (h.onew b e).2.1, (h.onew b e).2.2⟩, h.hp⟩
  exact h.o.other hx (fun e => (h.onew gw e).2.2.2.1 hT) (fun b hb => hb.elim) (by omega)
theorem CloSt.close (h : CloSt w p d S T W v vo i (i + 1) cs ps cs2 ps2) {q : Value × Value} {di : InD} (hq : ps[i]? = some q) (hd : d.ins[i]? = some di) (hr : RIn S T W q.1 q.2 di)
    (ha : ∀ (k : Nat) (r : Value × Value), k < i → ps[k]? = some r → ∀ g, q.2.ownBlock = some g → r.2.ownBlock ≠ some g) : CloSt w p d S T W v vo (i + 1) (i + 1) cs ps cs2 ps2 :=
  ⟨h.keeps, h.row, h.row2, h.g, h.e.close hq hd hr ha, h.new, h.o, h.onew, h.hp⟩
end
/-- the state of the loop over the outputs -/
structure CloSu (w : World) (p : Nat) (d : TxD) (S T S2 : Nat → Prop) (W : World) (v vo : Value) (j : Nat) (cs2 ps2 : List Value) : Prop where
  keeps : Keeps w W
  row : Row W p 0 [.int .i32 d.ver, v, vo, .int .u32 d.lock]
  row2 : Row W (p + 1) 0 [.int .i32 0, .slice none 0 0, .slice none 0 0, .int .u32 0]
  ins : RInsA S T (fun g => v.ownBlock = some g) W v d.ins
  fresh : ∀ g, S g ∨ T g → w.heap.size + 2 ≤ g ∧ g < W.heap.size
  disj : ∀ g, S g → ¬ T g
  new : ∀ g, v.ownBlock = some g → w.heap.size + 2 ≤ g ∧ g < W.heap.size ∧ ¬ S g ∧ ¬ T g
  o : CloO S2 w.heap.size W vo d.outs cs2 ps2 j
  onew : ∀ g, vo.ownBlock = some g → w.heap.size + 2 ≤ g ∧ g < W.heap.size ∧ ¬ S g ∧ ¬ T g ∧ v.ownBlock ≠ some g
  two : ∀ g, S2 g → ¬ T g ∧ v.ownBlock ≠ some g ∧ vo.ownBlock ≠ some g
  hp : p = w.heap.size
section
variable {w W : World} {p : Nat} {d : TxD} {S T S2 : Nat → Prop} {v vo : Value} {j : Nat} {cs : List Value} {ps : List (Value × Value)} {cs2 ps2 : List Value}
theorem CloSt.outs (h : CloSt w p d S T W v vo d.ins.length d.ins.length cs ps cs2 ps2) (hs : d.ins.length * 96 ≤ 140737488355328) : CloSu w p d S T NoneB W v vo 0 cs2 ps2 := by
  refine ⟨h.keeps, h.row, h.row2, ⟨cs, ps, ⟨h.g.rd, h.g.plen, fun k q dk hq hdk => ⟨h.e.done k q dk (List.getElem?_eq_some_iff.1 hdk).1 hq hdk, h.g.cells k q dk hq hdk⟩, hs, fun g e => e⟩, fun a b q r hab hq hr g e => ?_⟩, h.e.fresh, h.e.disj, h.new, h.o, h.onew, fun g hg => hg.elim, h.hp⟩
  have h1 := (List.getElem?_eq_some_iff.1 hq).1
  have h2 := (List.getElem?_eq_some_iff.1 hr).1
  have h3 := h.g.plen
  exact h.e.apart a b q r (by omega) (by omega) hab hq hr g e
theorem CloSu.keep {W' : World} (h : CloSu w p d S T S2 W v vo j cs2 ps2) (hk : Keeps W W') : CloSu w p d S T S2 W' v vo j cs2 ps2 :=
  ⟨h.keeps.trans hk, h.row.keeps hk, h.row2.keeps hk, h.ins.chg (hk.chg (fun _ => False)) (fun _ _ h => h) (fun _ _ h => h) (fun _ _ h => h), fun g e => ⟨(h.fresh g e).1, Nat.lt_of_lt_of_le (h.fresh g e).2 hk.size⟩, h.disj, fun g e => ⟨(h.new g e).1, Nat.lt_of_lt_of_le (h.new g e).2.1 hk.size, (h.new g e).2.2⟩, h.o.keeps hk, fun g e => ⟨(h.onew g e).1, Nat.lt_of_lt_of_le (h.onew g e).2.1 hk.size, (h.onew g e).2.2⟩, h.two, h.hp⟩
theorem CloSu.put {W0 : World} {S3 : Nat → Prop} {g off n cap : Nat} (h0 : CloSu w p d S T S2 W0 v (.slice (some ⟨g, off, none⟩) n cap) j cs2 ps2) (hk : Keeps W0 W) {di : OutD} (hd : d.outs[j]? = some di) (u : Value) (hu : RB S3 W u di.script) (h3 : ∀ b, S3 b → W0.heap.size ≤ b ∧ b < W.heap.size) :
    CloSu w p d S T (fun b => S2 b ∨ S3 b) (W.setCell ⟨g, off + j * 2 + 1, none⟩ u) v (.slice (some ⟨g, off, none⟩) n cap) (j + 1) (cs2.set (j * 2 + 1) u) (ps2.set j u) := by
  have h := h0.keep hk
  have hx := Chg.cell (W := W) g (off + j * 2 + 1) u
  have hn := h.onew g rfl
  have hn0 := h0.onew g rfl
  have hp := h.hp
  have hB : w.heap.size + 2 ≤ W0.heap.size := by
    have a := h0.row2.lt (by simp)
    omega
  refine ⟨keeps_chg h.keeps hx (by omega), h.row.other (show p ≠ g by omega) _, h.row2.other (show p + 1 ≠ g by omega) _, h.ins.chg hx (fun b hb e => hn.2.2.1 (by rw [← e]; exact hb)) (fun b hb e => hn.2.2.2.1 (by rw [← e]; exact hb)) (fun b hb e => hn.2.2.2.2 (by rw [← e]; exact hb)), fun b e => ⟨(h.fresh b e).1, by simpa using (h.fresh b e).2⟩, h.disj, fun b e => ⟨(h.new b e).1, by simpa using (h.new b e).2.1, (h.new b e).2.2⟩,
    h.o.put hd u hu (fun b hb => ⟨by have := h3 b hb; omega, (h3 b hb).2⟩) (fun b hb e => (h.two b hb).2.2 (by rw [e]; rfl)) (fun b hb e => by have := h3 b hb; omega) (by omega), fun b e => ⟨(h.onew b e).1, by simpa using (h.onew b e).2.1, (h.onew b e).2.2⟩, fun b hb => ?_, h.hp⟩
  rcases hb with hb | hb
  · exact h.two b hb
  · have h4 := h3 b hb
    exact ⟨fun ht => by have := h0.fresh b (.inr ht); omega, fun e => by have := h0.new b e; omega, fun e => by have := h0.onew b e; omega⟩
theorem CloSu.own (h : CloSu w p d S T S2 W v vo d.outs.length cs2 ps2) (hs : d.outs.length * 32 ≤ 140737488355328) (hver : I32 d.ver) (hlock : U32 d.lock) : OwnTx (fun g => S g ∨ S2 g) T (w.heap.size + 2) W v vo d := by
  refine ⟨hver, hlock, h.ins.mono (fun _ => .inl) (fun _ h => h) (fun _ h => h), (h.o.full hs).mono (fun _ => .inr) (fun _ h => h), ?_, ?_, ?_, ?_, ?_⟩
  · intro g hg
    rcases hg with (a | a) | a | a | a
    · have := h.fresh g (.inl a); omega
    · have := h.o.fresh g a; omega
    · have := h.fresh g (.inr a); omega
    · have := h.new g a; omega
    · have := h.onew g a; omega
  · rintro g (a | a) b
    · exact h.disj g a b
    · exact (h.two g a).1 b
  · rintro g ((a | a) | a) e
    · exact (h.new g e).2.2.1 a
    · exact (h.two g a).2.1 e
    · exact (h.new g e).2.2.2 a
  · rintro g ((a | a) | a) e
    · exact (h.onew g e).2.2.1 a
    · exact (h.two g a).2.2 e
    · exact (h.onew g e).2.2.2.1 a
  · intro g e e2
    exact (h.onew g e2).2.2.2.2 e
end
end Go.Proofs.Ytjfkkdkmpnpmpaa
