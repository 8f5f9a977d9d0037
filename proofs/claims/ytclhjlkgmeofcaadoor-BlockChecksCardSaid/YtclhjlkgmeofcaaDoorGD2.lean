/- A slice of transactions, as memory reads it; one of one's own. No condition. | Gates ahead of a walk's arms: each fits one kind of operation by its text alone, so that a law which does not fit fails at once. No condition. | strongboxlaw10.few. -/
import Derived.Test.YtclhjlkgmeofcaaDoorGB0
import Derived.Test.YtclhjlkgmeofcaaDoorGA0
namespace Go.Proofs.YtclhjlkgmeofcaaDoor
set_option linter.unusedVariables false
set_option linter.unusedSimpArgs false
open Go Go.RowKit

def txCells (d : TxD) (iv ov : Value) : List Value := [.int .i32 d.ver, iv, ov, .int .u32 d.lock]
/-- S: the blocks of bytes, T: those of lists of items, R: those of rows -/
structure RTxsC (S T R : Nat → Prop) (w : World) (v : Value) (l : List TxD) (cs : List Value) (ps : List (Value × Value)) : Prop where
  rd : Rd w 4 v l.length cs
  plen : ps.length = l.length
  each : ∀ (i : Nat) (p : Value × Value) (d : TxD), ps[i]? = some p → l[i]? = some d → RTx S T R w p.1 p.2 d ∧ (cs.drop (i * 4)).take 4 = txCells d p.1 p.2
  small : l.length * 64 ≤ 140737488355328
def RTxs (S T R : Nat → Prop) (w : World) (v : Value) (l : List TxD) : Prop := ∃ cs ps, RTxsC S T R w v l cs ps
theorem RTxs.any {S T R : Nat → Prop} {w : World} {v : Value} {l : List TxD} (h : RTxs S T R w v l) : ∃ a cap, v = .slice a l.length cap ∧ l.length ≤ cap ∧ cap ≤ maxLen := by
  obtain ⟨cs, ps, h⟩ := h
  obtain ⟨_, a, cap, h1, h2, h3, _⟩ := h.rd
  exact ⟨a, cap, h1, h2, h3⟩
theorem RTxs.small {S T R : Nat → Prop} {w : World} {v : Value} {l : List TxD} (h : RTxs S T R w v l) : l.length * 64 ≤ 140737488355328 := by
  obtain ⟨_, _, h⟩ := h; exact h.small
theorem RTxs.keeps {S T R : Nat → Prop} {w w' : World} {v : Value} {l : List TxD} (h : RTxs S T R w v l) (hk : Keeps w w') : RTxs S T R w' v l := by
  obtain ⟨cs, ps, h⟩ := h
  exact ⟨cs, ps, h.rd.keeps hk, h.plen, fun i p d a b => ⟨(h.each i p d a b).1.keeps hk, (h.each i p d a b).2⟩, h.small⟩
theorem RTxs.mono {S T R S' T' R' : Nat → Prop} {w : World} {v : Value} {l : List TxD} (h : RTxs S T R w v l) (hs : ∀ g, S g → S' g) (ht : ∀ g, T g → T' g) (hr : ∀ g, R g → R' g) : RTxs S' T' R' w v l := by
  obtain ⟨cs, ps, h⟩ := h
  exact ⟨cs, ps, h.rd, h.plen, fun i p d a b => ⟨(h.each i p d a b).1.mono hs ht hr, (h.each i p d a b).2⟩, h.small⟩
/-- the element's row -/
theorem RTxs.at {S T R : Nat → Prop} {w : World} {a : Option Addr} {n cap : Nat} {l : List TxD} (h : RTxs S T R w (.slice a n cap) l) {i : Nat} (hi : i < l.length) :
    ∃ g off iv ov d, a = some ⟨g, off, none⟩ ∧ g < w.heap.size ∧ l[i]? = some d ∧ Row w g (off + i * 4) (txCells d iv ov) ∧ RTx S T R w iv ov d := by
  obtain ⟨cs, ps, h⟩ := h
  obtain ⟨h0, a', cap', e, h2, h3, h4, h5⟩ := h.rd
  cases e
  have hpl := h.plen
  cases a with
  | none => have := h4 rfl; omega
  | some ad =>
    obtain ⟨g, off, rfl, hg, hr⟩ := h5 _ rfl (by omega)
    have hp : ps[i]? = some (ps[i]'(by omega)) := List.getElem?_eq_getElem (by omega)
    have hd : l[i]? = some (l[i]'hi) := List.getElem?_eq_getElem hi
    obtain ⟨h6, h7⟩ := h.each i _ _ hp hd
    refine ⟨g, off, _, _, _, rfl, hg, hd, ?_, h6⟩
    rw [← h7]
    exact (hr.drop (i * 4)).take 4
theorem RTxs.take {S T R : Nat → Prop} {w : World} {a : Option Addr} {n cap : Nat} {l : List TxD} (h : RTxs S T R w (.slice a n cap) l) (m : Nat) (hm : m ≤ l.length) : RTxs S T R w (.slice a m cap) (l.take m) := by
  obtain ⟨cs, ps, h⟩ := h
  have hl : (l.take m).length = m := by simp; omega
  obtain ⟨h0, a', cap', e, h2, h3, h4, h5⟩ := h.rd
  cases e
  refine ⟨cs.take (m * 4), ps.take m, ⟨by rw [hl]; simp; omega, a, cap, by rw [hl], by omega, h3, fun e => by have := h4 e; omega, fun ad e hn => ?_⟩, by rw [hl]; simp [h.plen]; omega, ?_, by rw [hl]; have := h.small; omega⟩
  · obtain ⟨g, off, e2, hg, hr⟩ := h5 ad e (by omega)
    exact ⟨g, off, e2, hg, hr.take _⟩
  · intro i p d hp hd
    rw [List.getElem?_take] at hp hd
    split at hp
    · rename_i him
      rw [if_pos him] at hd
      obtain ⟨e1, e2⟩ := h.each i p d hp hd
      refine ⟨e1, ?_⟩
      have h3 : (i + 1) * 4 ≤ m * 4 := Nat.mul_le_mul_right _ him
      rw [List.drop_take, List.take_take, Nat.min_eq_left (by omega)]
      exact e2
    · cases hp
/-- the blocks from B on that are there, but for v's own -/
def ButOwn (B : Nat) (W : World) (v : Value) : Nat → Prop := fun g => B ≤ g ∧ g < W.heap.size ∧ v.ownBlock ≠ some g
/-- a list of transactions of one's own: its row may be appended to, its transactions lie elsewhere -/
structure OwnTs (w W : World) (v : Value) (l : List TxD) (cs : List Value) (ps : List (Value × Value)) : Prop where
  keeps : Keeps w W
  buf : Buf W 4 v l.length cs
  new : ∀ g, v.ownBlock = some g → w.heap.size ≤ g
  plen : ps.length = l.length
  each : ∀ (i : Nat) (p : Value × Value) (d : TxD), ps[i]? = some p → l[i]? = some d → RTx (ButOwn w.heap.size W v) (ButOwn w.heap.size W v) (ButOwn w.heap.size W v) W p.1 p.2 d ∧ (cs.drop (i * 4)).take 4 = txCells d p.1 p.2
theorem OwnTs.nil (w : World) : OwnTs w w (.slice none 0 0) [] [] [] := ⟨Keeps.refl _, Buf.nil _ _, fun g h => by simp [Value.ownBlock] at h, rfl, fun i p d h => by simp at h⟩
theorem OwnTs.any {w W : World} {v : Value} {l : List TxD} {cs : List Value} {ps : List (Value × Value)} (h : OwnTs w W v l cs ps) : ∃ a cap, v = .slice a l.length cap := by
  obtain ⟨a, cap, h1, _⟩ := h.buf.any
  exact ⟨a, cap, h1⟩
theorem ButOwn.grow {B : Nat} {W W' : World} {v : Value} (hs : W.heap.size ≤ W'.heap.size) : ∀ g, ButOwn B W v g → ButOwn B W' v g := fun g h => ⟨h.1, Nat.lt_of_lt_of_le h.2.1 hs, h.2.2⟩
theorem OwnTs.step {w W W' : World} {v : Value} {l : List TxD} {cs : List Value} {ps : List (Value × Value)} (h : OwnTs w W v l cs ps) (hk : Keeps W W') : OwnTs w W' v l cs ps :=
  ⟨h.keeps.trans hk, h.buf.keeps hk, h.new, h.plen, fun i p d a b => ⟨((h.each i p d a b).1.keeps hk).mono (ButOwn.grow hk.size) (ButOwn.grow hk.size) (ButOwn.grow hk.size), (h.each i p d a b).2⟩⟩
/-- the blocks from B to E -/
def Btw (B E : Nat) : Nat → Prop := fun g => B ≤ g ∧ g < E
theorem OwnTs.txs {w W : World} {v : Value} {l : List TxD} {cs : List Value} {ps : List (Value × Value)} (h : OwnTs w W v l cs ps) (hs : l.length * 64 ≤ 140737488355328) : RTxs (Btw w.heap.size W.heap.size) (Btw w.heap.size W.heap.size) (Btw w.heap.size W.heap.size) W v l :=
  ⟨cs, ps, h.buf.rd, h.plen, fun i p d a b => ⟨(h.each i p d a b).1.mono (fun _ x => ⟨x.1, x.2.1⟩) (fun _ x => ⟨x.1, x.2.1⟩) (fun _ x => ⟨x.1, x.2.1⟩), (h.each i p d a b).2⟩, hs⟩
theorem RTxs.chg {S T R X : Nat → Prop} {w w' : World} {v : Value} {l : List TxD} (h : RTxs S T R w v l) (hc : Chg X w w') (hv : ∀ g, v.ownBlock = some g → ¬ X g) (hs : ∀ g, S g → ¬ X g) (ht : ∀ g, T g → ¬ X g) (hr : ∀ g, R g → ¬ X g) : RTxs S T R w' v l := by
  obtain ⟨cs, ps, h⟩ := h
  exact ⟨cs, ps, h.rd.chg hc hv, h.plen, fun i p d a b => ⟨(h.each i p d a b).1.chg hc hs ht hr, (h.each i p d a b).2⟩, h.small⟩
theorem tx_info : (Tryd.prog.info? 66).map (fun i => (i.size, i.bytes)) = some (4, 64) := by kernel_rfl
theorem tx_zero : ((Tryd.prog.info? 66).bind (fun i => i.zero.map (·.cells.size))) = some 4 := by kernel_rfl
theorem OwnTs.after {w W W1 w2 : World} {v v' iv ov : Value} {l : List TxD} {cs : List Value} {ps : List (Value × Value)} {d : TxD} {S T : Nat → Prop} (h : OwnTs w W v l cs ps) (hk : Keeps W W1) (hd : OwnTx S T W.heap.size W1 iv ov d)
    (hb : Buf w2 4 v' (l.length + 1) (cs ++ txCells d iv ov)) (hc : Chg (fun k => v.ownBlock = some k) W1 w2) (hs : SameOrNew W1 v v') : OwnTs w w2 v' (l ++ [d]) (cs ++ txCells d iv ov) (ps ++ [(iv, ov)]) := by
  have hk1 := h.keeps.trans hk
  have hcl : cs.length = l.length * 4 := h.buf.1
  have hvl : ∀ g, v.ownBlock = some g → g < W.heap.size := fun g e => h.buf.lt e
  have hw := hk.size
  have hcs := hc.size
  have hnew : ∀ g, ButOwn w.heap.size W1 v g → ButOwn w.heap.size w2 v' g := fun g hg => by
    refine ⟨hg.1, Nat.lt_of_lt_of_le hg.2.1 hcs, ?_⟩
    rcases hs with e | ⟨g', e1, e2⟩
    · rw [e]; exact hg.2.2
    · rw [e1]; intro e; cases e; have := hg.2.1; omega
  have hown : ∀ g, (S g ∨ T g ∨ iv.ownBlock = some g ∨ ov.ownBlock = some g) → ButOwn w.heap.size W1 v g := fun g hg => by
    have := hd.fresh g hg
    have h0 := h.keeps.size
    exact ⟨by omega, this.2, fun e => by have := hvl g e; omega⟩
  refine ⟨Below.trans hk1 (hc.below hk1.size (fun k hk2 e => by have := h.new k e; omega)), by rw [List.length_append]; exact hb, ?_, by simp [h.plen], ?_⟩
  · intro g hg
    rcases hs with e | ⟨g', e1, e2⟩
    · exact h.new g (by rw [← e]; exact hg)
    · rw [hg] at e1; cases e1; exact Nat.le_trans hk1.size e2
  · intro i p x hp hx
    by_cases hi : i < l.length
    · have hip : i < ps.length := by rw [h.plen]; exact hi
      rw [List.getElem?_append_left hip] at hp
      rw [List.getElem?_append_left hi] at hx
      obtain ⟨e1, e2⟩ := h.each i p x hp hx
      refine ⟨(((e1.keeps hk).mono (ButOwn.grow hw) (ButOwn.grow hw) (ButOwn.grow hw)).chg hc (fun g hg e => hg.2.2 e) (fun g hg e => hg.2.2 e) (fun g hg e => hg.2.2 e)).mono hnew hnew hnew, ?_⟩
      rw [← e2, List.drop_append_of_le_length (by omega), List.take_append_of_le_length (by simp; omega)]
    · have hi' : i = l.length := by
        have := (List.getElem?_eq_some_iff.1 hx).1
        simp at this; omega
      subst hi'
      rw [List.getElem?_append_right (by rw [h.plen]; exact Nat.le_refl _), h.plen] at hp
      rw [List.getElem?_append_right (Nat.le_refl _)] at hx
      simp at hp hx
      subst hp hx
      have hrt : RTx (ButOwn w.heap.size W1 v) (ButOwn w.heap.size W1 v) (ButOwn w.heap.size W1 v) W1 iv ov d := ⟨hd.ver, hd.lock, hd.ins.x.mono (fun g hg => hown g (.inl hg)) (fun g hg => hown g (.inr (.inl hg))) (fun g hg => hown g (.inr (.inr (.inl hg)))), hd.outs.mono (fun g hg => hown g (.inl hg)) (fun g hg => hown g (.inr (.inr (.inr hg))))⟩
      refine ⟨(hrt.chg hc (fun g hg e => hg.2.2 e) (fun g hg e => hg.2.2 e) (fun g hg e => hg.2.2 e)).mono hnew hnew hnew, ?_⟩
      rw [List.drop_append, List.drop_eq_nil_of_le (by omega), hcl, Nat.sub_self, List.drop_zero, List.nil_append, List.take_of_length_le]
      exact Nat.le_refl _
end Go.Proofs.YtclhjlkgmeofcaaDoor
namespace Go.Proofs.YtclhjlkgmeofcaaDoor
set_option linter.unusedVariables false
set_option linter.unusedSimpArgs false
open Go Go.RowKit
section
variable {P : Program} {ops : Array Oper} {rest : List Oper} {a : Act} {w : World} {Q : Exit → Act → World → Prop} {d : Option Tmp} {y : TypeId} {p : String} {af : Array Edge} {gd : Option (Nat × Bool)}
theorem gate_load (t : TypeId) (x : Operand) (h : wpList P ops Q (⟨d, .load t x, y, p, af, gd⟩ :: rest) a w) : wpList P ops Q (⟨d, .load t x, y, p, af, gd⟩ :: rest) a w := h
theorem gate_store (t : TypeId) (x z : Operand) (h : wpList P ops Q (⟨d, .store t x z, y, p, af, gd⟩ :: rest) a w) : wpList P ops Q (⟨d, .store t x z, y, p, af, gd⟩ :: rest) a w := h
theorem gate_bin (b : BinOp) (t t' : TypeId) (x z : Operand) (h : wpList P ops Q (⟨d, .binOp b t x z t', y, p, af, gd⟩ :: rest) a w) : wpList P ops Q (⟨d, .binOp b t x z t', y, p, af, gd⟩ :: rest) a w := h
theorem gate_build (t : TypeId) (xs : Array (Nat × Operand)) (h : wpList P ops Q (⟨d, .build t xs, y, p, af, gd⟩ :: rest) a w) : wpList P ops Q (⟨d, .build t xs, y, p, af, gd⟩ :: rest) a w := h
end
end Go.Proofs.YtclhjlkgmeofcaaDoor
namespace Go.Proofs.YtclhjlkgmeofcaaDoor
set_option linter.unusedVariables false
set_option linter.unusedSimpArgs false
open Go Go.RowKit

theorem sz_blk (hc : List Value) (tv : Value) (h : hc.length = 68) : (Tryd.prog.info? 30).map (·.size) = some (hc ++ [tv]).length := by rw [List.length_append, h]; kernel_rfl
theorem blk_cell {w : World} {b : Nat} {hc : List Value} {tv : Value} (h : Row w b 0 (hc ++ [tv])) (hl : hc.length = 68) : w.cell? ⟨b, 68, none⟩ = some tv ∧ w.frozen? ⟨b, 68, none⟩ = false := by
  have := h 68 tv (by rw [List.getElem?_append_right (by omega)]; simp [hl])
  simpa using this
theorem blk_one {hc : List Value} {tv : Value} (h : ∀ v ∈ hc, v.oneCell' = true) (ht : tv.oneCell' = true) : ∀ v ∈ hc ++ [tv], v.oneCell' = true := fun v hv => by
  rcases List.mem_append.1 hv with hv | hv
  · exact h v hv
  · simp at hv; rw [hv]; exact ht
theorem blk_set {hc : List Value} {tv u : Value} (hl : hc.length = 68) : (hc ++ [tv]).set 68 u = hc ++ [u] := by
  rw [List.set_append_right _ _ (by omega), hl]; rfl
theorem map_take_snoc {α β : Type} (f : α → β) (l : List α) (i : Nat) (x : α) (h : l[i]? = some x) : (l.take (i + 1)).map f = (l.take i).map f ++ [f x] := by
  rw [List.take_add_one, h]; simp
def zeroBlk : List Value := Value.int .i32 0 :: (List.replicate 64 (Value.int .u8 0) ++ [.int .u32 0, .int .u32 0, .int .u32 0, .slice none 0 0])
set_option maxRecDepth 100000 in
set_option maxHeartbeats 4000000 in
theorem bfew_loop (hc : List Value) (hl : hc.length = 68) (h1 : ∀ v ∈ hc, v.oneCell' = true) (tv : Value) (l : List TxD) (w : World) (h : RTxs AnyB AnyB AnyB w tv l) :
    Calls Tryd.prog 7 #[.agg (hc ++ [tv]).toArray] w fun e w' => ∃ tv' B, w.heap.size ≤ B ∧ (∀ g, tv'.ownBlock = some g → B ≤ g) ∧ e = .returned (.agg (hc ++ [tv']).toArray) ∧ Keeps w w' ∧ RTxs (Btw B w'.heap.size) (Btw B w'.heap.size) (Btw B w'.heap.size) w' tv' ((l.take 12).map (fewD 4 200)) := by
  have HT := Lib.hid h; have HL := Lib.hid hl; have H1 := Lib.hid h1
  obtain ⟨a, cap, rfl, hcap, hcm⟩ := h.any
  have hsm := h.small
  clear h hl h1
  have hsp : ∃ m, m = (l.take 12).length ∧ ((12 < l.length ∧ m = 12) ∨ (¬ 12 < l.length ∧ m = l.length)) := ⟨_, rfl, by simp; omega⟩
  obtain ⟨m, hm, hcase⟩ := hsp
  have hTT : RTxs AnyB AnyB AnyB w (.slice a m cap) (l.take 12) := by
    rcases hcase with ⟨h, rfl⟩ | ⟨h, rfl⟩
    · exact HT.out.take 12 (by omega)
    · rw [List.take_of_length_le (by omega)]
      exact HT.out
  have HTT := Lib.hid hTT; have HM := Lib.hid hm
  clear hTT hm HT
  generalize l.take 12 = L at *
  rcases hcase with ⟨hb, rfl⟩ | ⟨hb, rfl⟩
  all_goals
    go_enter Tryd.func7, Tryd.ntmps7
    go_upto_region 1 with (fail)
    refine wp_rows2 (fun W0 hk hr1 hr2 hsz => ?_)
    have hr1 : Row W0 w.heap.size 0 (hc ++ [.slice a l.length cap]) := by simpa using hr1
    have hr2 : Row W0 (w.heap.size + 1) 0 zeroBlk := hr2
    obtain ⟨p, hp⟩ : ∃ p, p = w.heap.size := ⟨_, rfl⟩
    rw [← hp] at hr1 hr2 hsz ⊢
    have HP := Lib.hid hp; have HK := Lib.hid hk; have HR1 := Lib.hid hr1; have HR2 := Lib.hid hr2; have HSZ := Lib.hid hsz
    obtain ⟨b0, f0⟩ := blk_cell hr1 HL.out
    clear hp hk hr1 hr2 hsz
    go_upto_region 3 with (fail)
    refine wp_gen (fun W => Keeps w W ∧ Row W p 0 (hc ++ [.slice a L.length cap]) ∧ Row W (p + 1) 0 zeroBlk ∧ W.heap.size = p + 2) ?_ ?_
    focus
      first
        | exact ⟨keeps_chg HK.out (Chg.cell p 68 _) (by have := HP.out; omega), by
            have := HR1.out.set 68 (by rw [List.length_append, HL.out]; simp) (.slice a 12 cap)
            rw [blk_set HL.out] at this
            rw [← HM.out]
            simpa using this, HR2.out.other (show p + 1 ≠ p by omega) _, by simpa using HSZ.out⟩
        | exact ⟨HK.out, by have := HR1.out; rw [HM.out] at this; exact this, HR2.out, HSZ.out⟩
    rw [HM.out] at HTT
    clear HR1 HR2 HSZ HK b0 f0
    intro W1 ⟨hk, hr1, hr2, hsz⟩
    have HK := Lib.hid hk; have HR1 := Lib.hid hr1; have HR2 := Lib.hid hr2; have HSZ := Lib.hid hsz
    obtain ⟨b0, -⟩ := blk_cell hr1 HL.out
    clear hk hr1 hr2 hsz
    have hLs : L.length * 64 ≤ 140737488355328 := HTT.out.small
    obtain ⟨i0, z0, hi, hz0, hz1, hz2, hz3⟩ := info2_any tx_info tx_zero
    have HI := Lib.hid hi; have HZ0 := Lib.hid hz0; have HZ1 := Lib.hid hz1; have HZ2 := Lib.hid hz2; have HZ3 := Lib.hid hz3
    clear hi hz0 hz1 hz2 hz3
    try clear hb
    go_wp2
    go_loopw [3, 17] (fun v c wr => ∃ i : Nat, i ≤ L.length ∧ c = .int .i64 i ∧ ∃ cs ps, Hid (OwnTs W1 wr v ((L.take i).map (fewD 4 200)) cs ps)) (fun _ c _ => (L.length - intOf c).toNat)
    case atStart => exact ⟨0, by omega, rfl, _, _, Lib.hid (OwnTs.nil _)⟩
    case round =>
      obtain ⟨i, hi, rfl, cs, ps, HOW⟩ := hrel
      clear b0
      by_cases hlt : i < L.length
      · obtain ⟨g, off, iv, ov, d, rfl, hg, hdi, hrow, hrtx⟩ := (HTT.out.keeps (HK.out.trans HOW.out.keeps)).at hlt
        have HDI := Lib.hid hdi; have HROW := Lib.hid hrow; have HRTX := Lib.hid hrtx
        obtain ⟨va, vc, hv⟩ := HOW.out.any
        have hil : ((L.take i).map (fewD 4 200)).length = i := by simp; omega
        have HIL := Lib.hid hil
        rw [hil] at hv
        subst hv
        have HBF : Hid (Buf wr 4 (.slice va i vc) i cs) := Lib.hid (by have := HOW.out.buf; rw [hil] at this; exact this)
        obtain ⟨ia, ic, rfl, -⟩ := hrtx.ins.any
        obtain ⟨oa, oc, rfl, -⟩ := hrtx.outs.any
        clear hdi hrow hrtx hil
        go_upto_region 7 with (first | ((with_reducible refine gate_load 66 (.tmp 19) ?_); refine wpList_load_at rfl 66 (.tmp 19) rfl g (off + i * 4) rfl _ _ HROW.out Tryd.underlying66 rfl (sz_tx _ _ _ _) ?_) | ((with_reducible refine gate_store 66 (.tmp 5) (.tmp 20) ?_); refine wpList_store_row rfl 66 (.tmp 5) (.tmp 20) rfl _ 0 rfl _ (txCells d _ _) rfl (Row.new [.int .i32 0, .slice none 0 0, .slice none 0 0, .int .u32 0] _ _ rfl) rfl (sz_tx _ _ _ _) (four_one _ _ _ _ _ _ _ _) ?_; intro W5 hr5 hc5; have HR5 := Lib.hid hr5; have HC5 := Lib.hid hc5; clear hr5 hc5))
        have HK5 := Lib.hid (keeps_chg (keeps_alloc (Keeps.refl wr) _) HC5.out (Nat.le_refl _))
        obtain ⟨q, hq⟩ : ∃ q, q = wr.heap.size := ⟨_, rfl⟩
        rw [← hq] at HR5 ⊢
        clear hq HC5
        have HFW := Lib.hid (rfew_any AnyB AnyB AnyB 4 200 (by omega) (by omega) d _ _ W5 (HRTX.out.keeps HK5.out))
        go_wp2_with (first | ((with_reducible refine gate_load 66 (.tmp 5) ?_); refine wpList_load_at rfl 66 (.tmp 5) rfl q 0 rfl _ _ HR5.out Tryd.underlying66 rfl (sz_tx _ _ _ _) ?_) | (go_at_call 27; refine HFW.out.mono ?_; rintro e W6 ⟨iv6, ov6, rfl, hk6, S6, T6, ho6⟩; obtain ⟨ia6, ic6, rfl, -⟩ := ho6.rtx.ins.any; obtain ⟨oa6, oc6, rfl, -⟩ := ho6.rtx.outs.any; have HK6 := Lib.hid hk6; have HO6 := Lib.hid ho6; clear hk6 ho6) | (refine wpList_buildSlice1 rfl 28 66 _ rfl 4 64 Tryd.underlying28 tx_info tx_zero (by decide) (txCells (fewD 4 200 d) _ _) rfl rfl ?_) | (at_builtin; refine wpList_append_buf rfl _ _ 28 28 rfl 66 i0 z0 4 64 Tryd.underlying28 HI.out HZ0.out HZ1.out HZ2.out HZ3.out (by decide) (.slice va i vc) i cs rfl ((HBF.out.keeps HK5.out).keeps (HK6.out.trans (keeps_alloc (Keeps.refl _) _))) _ rfl 1 (txCells (fewD 4 200 d) _ _) (Src.row Tryd.underlying28 rfl (Row.new (txCells (fewD 4 200 d) _ _) _ 66 rfl) (four_one _ _ _ _ _ _ _ _)) (by unfold maxLen; omega) (by omega) ?_; intro v9 w9 hb9 hc9 hs9 _; have HB9 := Lib.hid hb9; have HC9 := Lib.hid hc9; have HS9 := Lib.hid hs9; clear hb9 hc9 hs9))
        have h9 := (HOW.out.step HK5.out).after (HK6.out.trans (keeps_alloc (Keeps.refl _) _)) (HO6.out.keeps (keeps_alloc (Keeps.refl _) _)) (by rw [HIL.out]; exact HB9.out) HC9.out HS9.out
        rw [← map_take_snoc (fewD 4 200) L i d HDI.out] at h9
        have H9 := Lib.hid h9
        clear h9 HB9 HC9 HS9
        go_roundw
        case rel => exact ⟨i + 1, by omega, by go_num, _, _, H9⟩
        case measure => simp [intOf]; omega
      · obtain rfl : L.length = i := by omega
        rw [List.take_length] at HOW
        have hml : (L.map (fewD 4 200)).length = L.length := by simp
        obtain ⟨va, vc, hv⟩ := HOW.out.any
        rw [hml] at hv
        subst hv
        have htx := HOW.out.txs (by rw [hml]; exact hLs)
        have HTX := Lib.hid htx
        have HKW := Lib.hid (HOW.out.keeps)
        have hnew : ∀ g, (Value.slice va L.length vc).ownBlock = some g → W1.heap.size ≤ g := HOW.out.new
        have HNW := Lib.hid hnew
        have HRp := Lib.hid (HR1.out.keeps HKW.out); have HRq := Lib.hid (HR2.out.keeps HKW.out)
        obtain ⟨b0, f0⟩ := blk_cell HRp.out HL.out
        clear htx hnew HOW hml
        go_upto_region 10 with (fail)
        have hrp : Row (wr.setCell ⟨p, 68, none⟩ (.slice va L.length vc)) p 0 (hc ++ [.slice va L.length vc]) := by
          have := HRp.out.set 68 (by rw [List.length_append, HL.out]; simp) (.slice va L.length vc)
          rw [blk_set HL.out] at this
          simpa using this
        have hrq : Row (wr.setCell ⟨p, 68, none⟩ (.slice va L.length vc)) (p + 1) 0 zeroBlk := HRq.out.other (show p + 1 ≠ p by omega) _
        have hxc := Chg.cell (W := wr) p 68 (.slice va L.length vc)
        have HRP := Lib.hid hrp; have HRQ := Lib.hid hrq; have HXC := Lib.hid hxc
        clear hrp hrq hxc b0 f0 HRp HRq
        generalize wr.setCell ⟨p, 68, none⟩ (.slice va L.length vc) = WY at *
        go_wp2_with (first | ((with_reducible refine gate_load 30 (.tmp 1) ?_); refine wpList_load_at rfl 30 (.tmp 1) rfl p 0 rfl _ _ HRP.out Tryd.underlying30 rfl (sz_blk _ _ HL.out) ?_) | ((with_reducible refine gate_store 30 (.tmp 2) (.tmp 29) ?_); refine wpList_store_row rfl 30 (.tmp 2) (.tmp 29) rfl (p + 1) 0 rfl zeroBlk (hc ++ [.slice va L.length vc]) rfl HRQ.out (by rw [List.length_append, HL.out]; rfl) (sz_blk _ _ HL.out) (blk_one H1.out rfl) ?_; intro W9 hr9 hc9; have HR9 := Lib.hid hr9; have HC9 := Lib.hid hc9; clear hr9 hc9))
        refine bodyPost_ret (results_cell_at rfl _ _ (p + 1) 0 _ _ (by simp only [Act.put, List.setIfInBounds_toArray, List.set_cons_zero, List.set_cons_succ]; rfl) HR9.out Tryd.underlying30 rfl (sz_blk _ _ HL.out)) rfl ?_
        have hpp := HP.out; have hszz := HSZ.out
        have y1 : Chg (fun g => g = p ∨ g = p + 1) wr W9 := (HXC.out.mono (fun g _ h => .inl h)).trans (HC9.out.mono (fun g _ h => .inr h))
        have hle := y1.size
        have hsl := HKW.out.size
        refine ⟨_, W1.heap.size, HK.out.size, HNW.out, rfl, keeps_chg (keeps_chg (HK.out.trans HKW.out) HXC.out (by omega)) HC9.out (by omega), ?_⟩
        refine (HTX.out.chg y1 (fun g e hx => by have := HNW.out g e; omega) (fun g hg hx => by have := hg.1; omega) (fun g hg hx => by have := hg.1; omega) (fun g hg hx => by have := hg.1; omega)).mono (fun g hg => ⟨hg.1, Nat.lt_of_lt_of_le hg.2 hle⟩) (fun g hg => ⟨hg.1, Nat.lt_of_lt_of_le hg.2 hle⟩) (fun g hg => ⟨hg.1, Nat.lt_of_lt_of_le hg.2 hle⟩)
end Go.Proofs.YtclhjlkgmeofcaaDoor
