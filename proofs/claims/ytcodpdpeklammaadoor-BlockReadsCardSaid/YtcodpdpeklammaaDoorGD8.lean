/- block.DecodeHeader. | A slice of transactions, as memory reads it; one of one's own. No condition. | A list of transactions that is read piece by piece. No condition. | block.Decode: what its walk needs. No condition. -/
import Derived.Test.YtcodpdpeklammaaDoorGD6
import Derived.Test.YtcodpdpeklammaaDoorGD7
import Derived.Test.YtcodpdpeklammaaDoorGB0
namespace Go.Proofs.YtcodpdpeklammaaDoor
set_option linter.unusedVariables false
set_option linter.unusedSimpArgs false
open Go Go.RowKit
variable {B : Nat}
/-- what DecodeHeader does -/
def HdDecP (l : List Int) (w : World) (r : Ending) (W : World) : Prop :=
  Keeps w W ∧ ∃ h e, r = .returned (.tuple #[.agg (hdCells h).toArray, .int .i64 e]) ∧ HdOk h ∧ ((l.length = 80 ∧ e = 0 ∧ h = headOf l) ∨ (l.length < 80 ∧ e = 4 ∧ h = hd0 0) ∨ (80 < l.length ∧ e = 3 ∧ h = hd0 0))
theorem built_hd0 : Tryd.prog.built 30 [] = some (hdCells (hd0 0)).toArray := by kernel_rfl
theorem hd0_ok : HdOk (hd0 0) := ⟨⟨by decide, by decide⟩, rfl, Z32_bytes, rfl, Z32_bytes, ⟨by decide, by decide⟩, ⟨by decide, by decide⟩, ⟨by decide, by decide⟩⟩
set_option maxRecDepth 100000 in
set_option maxHeartbeats 4000000 in
theorem dhead_any (v : Value) (l : List Int) (w : World) (hr : Rd w 1 v l.length (l.map (Value.int .u8))) (hn : l.length ≤ 140737488355328) (hb : Bytes l) :
    Calls Tryd.prog 10 #[v] w (HdDecP l w) := by
  have HR := Lib.hid hr; have HBY := Lib.hid hb
  obtain ⟨ad, cap, rfl⟩ : ∃ a c, v = .slice a l.length c := by obtain ⟨_, a, c, e, _⟩ := hr; exact ⟨a, c, e⟩
  clear hr hb
  go_enter Tryd.func10, Tryd.ntmps10
  go_upto_region 1 with (fail)
  refine wp_rows1r (fun W0 hk hr1 hsz => ?_)
  obtain ⟨p, hp⟩ : ∃ p, p = w.heap.size := ⟨_, rfl⟩
  rw [← hp] at hr1 hsz ⊢
  have HP := Lib.hid hp; have HSZ := Lib.hid hsz; have HK := Lib.hid hk
  have HR1 := Lib.hid (show Row W0 p 0 (hdCells (hd0 0)) from hr1)
  clear hp hsz hk hr1
  go_upto_region 3 with (first
    | (go_at_call 16; refine (rdr_open_any _ l W0 (HR.out.keeps HK.out) hn HBY.out).mono ?_; rintro r W1 ⟨g, v1, rfl, hg1, hg2, hra, hk1⟩; have HRA := Lib.hid hra; have HK1 := Lib.hid hk1; have HG := Lib.hid (And.intro hg1 hg2); clear hra hk1 hg1 hg2)
    | (go_at_call 17; refine (header_any (B := W1.heap.size) g v1 l W1 HRA.out (Nat.le_refl _) HG.out.2).mono ?_; intro r W2 hpst; obtain ⟨hc2, h, v2, e2, l2, hd, rfl, hok, hra2, hrf, heq⟩ := hpst; have HC2 := Lib.hid hc2; have HOK := Lib.hid hok; have HRA2 := Lib.hid hra2; have HRF := Lib.hid hrf; have HEQ := Lib.hid heq; clear hc2 hok hra2 hrf heq)
    | ((with_reducible refine gate_store 30 (.tmp 5) (.tmp 10) ?_); refine wpList_store_row rfl 30 (.tmp 5) (.tmp 10) rfl W2.heap.size 0 rfl (hdCells (hd0 0)) (hdCells h) rfl (Row.new _ _ _ rfl) (by rw [hdCells_len HOK.out.prevLen HOK.out.merkleLen, hdCells_len rfl rfl]) (sz_hd HOK.out.prevLen HOK.out.merkleLen) (hdCells_one _) ?_; intro W3 hr3 hc3; have HR3 := Lib.hid hr3; have HC3 := Lib.hid hc3; clear hr3 hc3))
  have hg := HG.out
  have hsz := HSZ.out
  have hk1s := HK1.out.size
  have hc2s := HC2.out.size
  have hka : Keeps W2 (W2.alloc (.cells (hdCells (hd0 0)).toArray 30)) := keeps_alloc (Keeps.refl _) _
  have hc3 : Chg (· = W2.heap.size) _ W3 := HC3.out
  have hrp : Row W3 p 0 (hdCells (hd0 0)) := (((HR1.out.keeps HK1.out).chg HC2.out (by omega)).keeps hka).chg hc3 (by omega)
  have hra3 : RdAt W1.heap.size W3 g v2 e2 l2 := (HRA2.out.keeps hka).far hc3 (fun k e => by have h : k = W2.heap.size := e; omega) (by omega)
  have hkw : Keeps w W3 := keeps_chg (keeps_alloc (keeps_chg (HK.out.trans HK1.out) HC2.out (by have := HP.out; omega)) _) hc3 (by have := HP.out; omega)
  have HRP := Lib.hid hrp; have HRA3 := Lib.hid hra3; have HKW := Lib.hid hkw
  clear hg hsz hk1s hc2s hka hc3 hrp hra3 hkw HC3 HC2 HRA HR1 HRA2 HK1
  have hres : (l.length = 80 ∧ closeE e2 l2 = 0 ∧ h = headOf l) ∨ (l.length < 80 ∧ closeE e2 l2 = 4) ∨ (80 < l.length ∧ closeE e2 l2 = 3) := by
    by_cases hl : l.length < 80
    · rcases HRF.out with ⟨h, _⟩ | ⟨_, _, h⟩ | ⟨_, _, h⟩
      · exact absurd rfl h
      · rw [rdHead_short hl] at h; cases h
      · rw [rdHead_short hl] at h; cases h
        exact .inr (.inl ⟨hl, rfl⟩)
    · have h0 := rdHead_of (l := l) (by omega)
      rcases HRF.out with ⟨h, _⟩ | ⟨_, he, h⟩ | ⟨_, _, h⟩
      · exact absurd rfl h
      · rw [h0] at h
        injection h with h
        obtain ⟨rfl, rfl⟩ := Prod.mk.inj h
        subst he
        by_cases h8 : l.length = 80
        · refine .inl ⟨h8, ?_, HEQ.out rfl⟩
          unfold closeE; rw [if_neg (by simp; omega)]
        · refine .inr (.inr ⟨by omega, ?_⟩)
          unfold closeE; rw [if_pos ⟨rfl, by simp; omega⟩]
      · rw [h0] at h; cases h
  have HRES := Lib.hid hres
  clear hres HRF HEQ
  go_upto_region 4 with (go_at_call 22; refine (rdr_close_any g v2 e2 l2 W3 HRA3.out).mono ?_; rintro r W4 ⟨rfl, rfl⟩)
  generalize closeE e2 l2 = c at *
  generalize W2.heap.size = q at *
  by_cases hc : c = 0
  · subst hc
    go_wp2_with (first
      | ((with_reducible refine gate_load 30 (.tmp 5) ?_); refine wpList_load_at rfl 30 (.tmp 5) rfl q 0 rfl _ _ HR3.out Tryd.underlying30 rfl (sz_hd HOK.out.prevLen HOK.out.merkleLen) ?_)
      | ((with_reducible refine gate_store 30 (.tmp 2) (.tmp 17) ?_); refine wpList_store_row rfl 30 (.tmp 2) (.tmp 17) rfl p 0 rfl (hdCells (hd0 0)) (hdCells h) rfl HRP.out (by rw [hdCells_len HOK.out.prevLen HOK.out.merkleLen, hdCells_len rfl rfl]) (sz_hd HOK.out.prevLen HOK.out.merkleLen) (hdCells_one _) ?_; intro W5 hr5 hc5; have HR5 := Lib.hid hr5; have HC5 := Lib.hid hc5; clear hr5 hc5))
    refine bodyPost_ret (results_cell_tmp (t := 3) (p := 2) rfl _ _ p 0 _ _ _ rfl rfl HR5.out Tryd.underlying30 rfl (sz_hd HOK.out.prevLen HOK.out.merkleLen)) rfl ?_
    refine ⟨keeps_chg HKW.out HC5.out (by have := HP.out; omega), h, 0, rfl, HOK.out, ?_⟩
    rcases HRES.out with ⟨a, _, b⟩ | ⟨_, b⟩ | ⟨_, b⟩
    · exact .inl ⟨a, rfl, b⟩
    · cases b
    · cases b
  · have HC := Lib.hid hc
    go_wp2_with (first
      | ((with_reducible refine gate_build 30 _ ?_); refine wpList_build_at rfl 30 _ rfl [] ?_ _ built_hd0 ?_; focus rfl)
      | ((with_reducible refine gate_store 30 (.tmp 2) (.tmp 15) ?_); refine wpList_store_row rfl 30 (.tmp 2) (.tmp 15) rfl p 0 rfl (hdCells (hd0 0)) (hdCells (hd0 0)) rfl HRP.out rfl (sz_hd rfl rfl) (hdCells_one _) ?_; intro W5 hr5 hc5; have HR5 := Lib.hid hr5; have HC5 := Lib.hid hc5; clear hr5 hc5))
    refine bodyPost_ret (results_cell_tmp (t := 3) (p := 2) rfl _ _ p 0 _ _ _ rfl rfl HR5.out Tryd.underlying30 rfl (sz_hd rfl rfl)) rfl ?_
    refine ⟨keeps_chg HKW.out HC5.out (by have := HP.out; omega), hd0 0, c, rfl, hd0_ok, ?_⟩
    rcases HRES.out with ⟨_, b, _⟩ | ⟨a, b⟩ | ⟨a, b⟩
    · exact absurd b HC.out
    · exact .inr (.inl ⟨a, b, rfl⟩)
    · exact .inr (.inr ⟨a, b, rfl⟩)
end Go.Proofs.YtcodpdpeklammaaDoor
namespace Go.Proofs.YtcodpdpeklammaaDoor
set_option linter.unusedVariables false
set_option linter.unusedSimpArgs false
open Go Go.RowKit

def txCells (d : TxD) (iv ov : Value) : List Value := [.int .i32 d.ver, iv, ov, .int .u32 d.lock]
/-- S: the blocks of bytes, T: those of lists of items, R: those of rows -/
structure RTxsC (S T R : Nat → Prop) (w : World) (v : Value) (l : List TxD) (cs : List Value) (ps : List (Value × Value)) : Prop where
  rd : Rd w 4 v l.length cs
  plen : ps.length = l.length
  each : ∀ (i : Nat) (p : Value × Value) (d : TxD), ps[i]? = some p → l[i]? = some d → RTx S T R w p.1 p.2 d ∧ (cs.drop (i * 4)).take 4 = txCells d p.1 p.2
  small : l.length * 64 ≤ 140737488355328
def RTxs (S T R : Nat → Prop) (w : World) (v : Value) (l : List TxD) : Prop := ∃ cs ps, RTxsC S T R w v l cs ps
theorem RTxs.any {S T R : Nat → Prop} {w : World} {v : Value} {l : List TxD} (h : RTxs S T R w v l) : ∃ a cap, v = .slice a l.length cap ∧ l.length ≤ cap ∧ cap ≤ maxLen := by
  obtain ⟨cs, ps, h⟩ := h
  obtain ⟨_, a, cap, h1, h2, h3, _⟩ := h.rd
  exact ⟨a, cap, h1, h2, h3⟩
theorem RTxs.small {S T R : Nat → Prop} {w : World} {v : Value} {l : List TxD} (h : RTxs S T R w v l) : l.length * 64 ≤ 140737488355328 := by
  obtain ⟨_, _, h⟩ := h; exact h.small
theorem RTxs.keeps {S T R : Nat → Prop} {w w' : World} {v : Value} {l : List TxD} (h : RTxs S T R w v l) (hk : Keeps w w') : RTxs S T R w' v l := by
  obtain ⟨cs, ps, h⟩ := h
  exact ⟨cs, ps, h.rd.keeps hk, h.plen, fun i p d a b => ⟨(h.each i p d a b).1.keeps hk, (h.each i p d a b).2⟩, h.small⟩
theorem RTxs.mono {S T R S' T' R' : Nat → Prop} {w : World} {v : Value} {l : List TxD} (h : RTxs S T R w v l) (hs : ∀ g, S g → S' g) (ht : ∀ g, T g → T' g) (hr : ∀ g, R g → R' g) : RTxs S' T' R' w v l := by
  obtain ⟨cs, ps, h⟩ := h
  exact ⟨cs, ps, h.rd, h.plen, fun i p d a b => ⟨(h.each i p d a b).1.mono hs ht hr, (h.each i p d a b).2⟩, h.small⟩
/-- the element's row -/
theorem RTxs.at {S T R : Nat → Prop} {w : World} {a : Option Addr} {n cap : Nat} {l : List TxD} (h : RTxs S T R w (.slice a n cap) l) {i : Nat} (hi : i < l.length) :
    ∃ g off iv ov d, a = some ⟨g, off, none⟩ ∧ g < w.heap.size ∧ l[i]? = some d ∧ Row w g (off + i * 4) (txCells d iv ov) ∧ RTx S T R w iv ov d := by
  obtain ⟨cs, ps, h⟩ := h
  obtain ⟨h0, a', cap', e, h2, h3, h4, h5⟩ := h.rd
  cases e
  have hpl := h.plen
  cases a with
  | none => have := h4 rfl; omega
  | some ad =>
    obtain ⟨g, off, rfl, hg, hr⟩ := h5 _ rfl (by omega)
    have hp : ps[i]? = some (ps[i]'(by omega)) := List.getElem?_eq_getElem (by omega)
    have hd : l[i]? = some (l[i]'hi) := List.getElem?_eq_getElem hi
    obtain ⟨h6, h7⟩ := h.each i _ _ hp hd
    refine ⟨g, off, _, _, _, rfl, hg, hd, ?_, h6⟩
    rw [← h7]
    exact (hr.drop (i * 4)).take 4
theorem RTxs.take {S T R : Nat → Prop} {w : World} {a : Option Addr} {n cap : Nat} {l : List TxD} (h : RTxs S T R w (.slice a n cap) l) (m : Nat) (hm : m ≤ l.length) : RTxs S T R w (.slice a m cap) (l.take m) := by
  obtain ⟨cs, ps, h⟩ := h
  have hl : (l.take m).length = m := by simp; omega
  obtain ⟨h0, a', cap', e, h2, h3, h4, h5⟩ := h.rd
  cases e
  refine ⟨cs.take (m * 4), ps.take m, ⟨by rw [hl]; simp; omega, a, cap, by rw [hl], by omega, h3, fun e => by have := h4 e; omega, fun ad e hn => ?_⟩, by rw [hl]; simp [h.plen]; omega, ?_, by rw [hl]; have := h.small; omega⟩
  · obtain ⟨g, off, e2, hg, hr⟩ := h5 ad e (by omega)
    exact ⟨g, off, e2, hg, hr.take _⟩
  · intro i p d hp hd
    rw [List.getElem?_take] at hp hd
    split at hp
    · rename_i him
      rw [if_pos him] at hd
      obtain ⟨e1, e2⟩ := h.each i p d hp hd
      refine ⟨e1, ?_⟩
      have h3 : (i + 1) * 4 ≤ m * 4 := Nat.mul_le_mul_right _ him
      rw [List.drop_take, List.take_take, Nat.min_eq_left (by omega)]
      exact e2
    · cases hp
/-- the blocks from B on that are there, but for v's own -/
def ButOwn (B : Nat) (W : World) (v : Value) : Nat → Prop := fun g => B ≤ g ∧ g < W.heap.size ∧ v.ownBlock ≠ some g
/-- a list of transactions of one's own: its row may be appended to, its transactions lie elsewhere -/
structure OwnTs (w W : World) (v : Value) (l : List TxD) (cs : List Value) (ps : List (Value × Value)) : Prop where
  keeps : Keeps w W
  buf : Buf W 4 v l.length cs
  new : ∀ g, v.ownBlock = some g → w.heap.size ≤ g
  plen : ps.length = l.length
  each : ∀ (i : Nat) (p : Value × Value) (d : TxD), ps[i]? = some p → l[i]? = some d → RTx (ButOwn w.heap.size W v) (ButOwn w.heap.size W v) (ButOwn w.heap.size W v) W p.1 p.2 d ∧ (cs.drop (i * 4)).take 4 = txCells d p.1 p.2
theorem OwnTs.nil (w : World) : OwnTs w w (.slice none 0 0) [] [] [] := ⟨Keeps.refl _, Buf.nil _ _, fun g h => by simp [Value.ownBlock] at h, rfl, fun i p d h => by simp at h⟩
theorem OwnTs.any {w W : World} {v : Value} {l : List TxD} {cs : List Value} {ps : List (Value × Value)} (h : OwnTs w W v l cs ps) : ∃ a cap, v = .slice a l.length cap := by
  obtain ⟨a, cap, h1, _⟩ := h.buf.any
  exact ⟨a, cap, h1⟩
theorem ButOwn.grow {B : Nat} {W W' : World} {v : Value} (hs : W.heap.size ≤ W'.heap.size) : ∀ g, ButOwn B W v g → ButOwn B W' v g := fun g h => ⟨h.1, Nat.lt_of_lt_of_le h.2.1 hs, h.2.2⟩
theorem OwnTs.step {w W W' : World} {v : Value} {l : List TxD} {cs : List Value} {ps : List (Value × Value)} (h : OwnTs w W v l cs ps) (hk : Keeps W W') : OwnTs w W' v l cs ps :=
  ⟨h.keeps.trans hk, h.buf.keeps hk, h.new, h.plen, fun i p d a b => ⟨((h.each i p d a b).1.keeps hk).mono (ButOwn.grow hk.size) (ButOwn.grow hk.size) (ButOwn.grow hk.size), (h.each i p d a b).2⟩⟩
/-- the blocks from B to E -/
def Btw (B E : Nat) : Nat → Prop := fun g => B ≤ g ∧ g < E
theorem OwnTs.txs {w W : World} {v : Value} {l : List TxD} {cs : List Value} {ps : List (Value × Value)} (h : OwnTs w W v l cs ps) (hs : l.length * 64 ≤ 140737488355328) : RTxs (Btw w.heap.size W.heap.size) (Btw w.heap.size W.heap.size) (Btw w.heap.size W.heap.size) W v l :=
  ⟨cs, ps, h.buf.rd, h.plen, fun i p d a b => ⟨(h.each i p d a b).1.mono (fun _ x => ⟨x.1, x.2.1⟩) (fun _ x => ⟨x.1, x.2.1⟩) (fun _ x => ⟨x.1, x.2.1⟩), (h.each i p d a b).2⟩, hs⟩
theorem RTxs.chg {S T R X : Nat → Prop} {w w' : World} {v : Value} {l : List TxD} (h : RTxs S T R w v l) (hc : Chg X w w') (hv : ∀ g, v.ownBlock = some g → ¬ X g) (hs : ∀ g, S g → ¬ X g) (ht : ∀ g, T g → ¬ X g) (hr : ∀ g, R g → ¬ X g) : RTxs S T R w' v l := by
  obtain ⟨cs, ps, h⟩ := h
  exact ⟨cs, ps, h.rd.chg hc hv, h.plen, fun i p d a b => ⟨(h.each i p d a b).1.chg hc hs ht hr, (h.each i p d a b).2⟩, h.small⟩
theorem tx_info : (Tryd.prog.info? 61).map (fun i => (i.size, i.bytes)) = some (4, 64) := by kernel_rfl
theorem tx_zero : ((Tryd.prog.info? 61).bind (fun i => i.zero.map (·.cells.size))) = some 4 := by kernel_rfl
theorem OwnTs.after {w W W1 w2 : World} {v v' iv ov : Value} {l : List TxD} {cs : List Value} {ps : List (Value × Value)} {d : TxD} {S T : Nat → Prop} (h : OwnTs w W v l cs ps) (hk : Keeps W W1) (hd : OwnTx S T W.heap.size W1 iv ov d)
    (hb : Buf w2 4 v' (l.length + 1) (cs ++ txCells d iv ov)) (hc : Chg (fun k => v.ownBlock = some k) W1 w2) (hs : SameOrNew W1 v v') : OwnTs w w2 v' (l ++ [d]) (cs ++ txCells d iv ov) (ps ++ [(iv, ov)]) := by
  have hk1 := h.keeps.trans hk
  have hcl : cs.length = l.length * 4 := h.buf.1
  have hvl : ∀ g, v.ownBlock = some g → g < W.heap.size := fun g e => h.buf.lt e
  have hw := hk.size
  have hcs := hc.size
  have hnew : ∀ g, ButOwn w.heap.size W1 v g → ButOwn w.heap.size w2 v' g := fun g hg => by
    refine ⟨hg.1, Nat.lt_of_lt_of_le hg.2.1 hcs, ?_⟩
    rcases hs with e | ⟨g', e1, e2⟩
    · rw [e]; exact hg.2.2
    · rw [e1]; intro e; cases e; have := hg.2.1; omega
  have hown : ∀ g, (S g ∨ T g ∨ iv.ownBlock = some g ∨ ov.ownBlock = some g) → ButOwn w.heap.size W1 v g := fun g hg => by
    have := hd.fresh g hg
    have h0 := h.keeps.size
    exact ⟨by omega, this.2, fun e => by have := hvl g e; omega⟩
  refine ⟨Below.trans hk1 (hc.below hk1.size (fun k hk2 e => by have := h.new k e; omega)), by rw [List.length_append]; exact hb, ?_, by simp [h.plen], ?_⟩
  · intro g hg
    rcases hs with e | ⟨g', e1, e2⟩
    · exact h.new g (by rw [← e]; exact hg)
    · rw [hg] at e1; cases e1; exact Nat.le_trans hk1.size e2
  · intro i p x hp hx
    by_cases hi : i < l.length
    · have hip : i < ps.length := by rw [h.plen]; exact hi
      rw [List.getElem?_append_left hip] at hp
      rw [List.getElem?_append_left hi] at hx
      obtain ⟨e1, e2⟩ := h.each i p x hp hx
      refine ⟨(((e1.keeps hk).mono (ButOwn.grow hw) (ButOwn.grow hw) (ButOwn.grow hw)).chg hc (fun g hg e => hg.2.2 e) (fun g hg e => hg.2.2 e) (fun g hg e => hg.2.2 e)).mono hnew hnew hnew, ?_⟩
      rw [← e2, List.drop_append_of_le_length (by omega), List.take_append_of_le_length (by simp; omega)]
    · have hi' : i = l.length := by
        have := (List.getElem?_eq_some_iff.1 hx).1
        simp at this; omega
      subst hi'
      rw [List.getElem?_append_right (by rw [h.plen]; exact Nat.le_refl _), h.plen] at hp
      rw [List.getElem?_append_right (Nat.le_refl _)] at hx
      simp at hp hx
      subst hp hx
      have hrt : RTx (ButOwn w.heap.size W1 v) (ButOwn w.heap.size W1 v) (ButOwn w.heap.size W1 v) W1 iv ov d := ⟨hd.ver, hd.lock, hd.ins.x.mono (fun g hg => hown g (.inl hg)) (fun g hg => hown g (.inr (.inl hg))) (fun g hg => hown g (.inr (.inr (.inl hg)))), hd.outs.mono (fun g hg => hown g (.inl hg)) (fun g hg => hown g (.inr (.inr (.inr hg))))⟩
      refine ⟨(hrt.chg hc (fun g hg e => hg.2.2 e) (fun g hg e => hg.2.2 e) (fun g hg e => hg.2.2 e)).mono hnew hnew hnew, ?_⟩
      rw [List.drop_append, List.drop_eq_nil_of_le (by omega), hcl, Nat.sub_self, List.drop_zero, List.nil_append, List.take_of_length_le]
      exact Nat.le_refl _
end Go.Proofs.YtcodpdpeklammaaDoor
namespace Go.Proofs.YtcodpdpeklammaaDoor
set_option linter.unusedVariables false
set_option linter.unusedSimpArgs false
open Go Go.RowKit
/-- a list of transactions made from base on: its row may be appended to, its transactions lie elsewhere -/
structure GotTs (base : Nat) (W : World) (v : Value) (l : List TxD) (cs : List Value) (ps : List (Value × Value)) : Prop where
  buf : Buf W 4 v l.length cs
  new : ∀ g, v.ownBlock = some g → base ≤ g
  plen : ps.length = l.length
  each : ∀ (i : Nat) (p : Value × Value) (d : TxD), ps[i]? = some p → l[i]? = some d → RTx (ButOwn base W v) (ButOwn base W v) (ButOwn base W v) W p.1 p.2 d ∧ (cs.drop (i * 4)).take 4 = txCells d p.1 p.2
variable {base : Nat}
theorem GotTs.nil (base : Nat) (W : World) : GotTs base W (.slice none 0 0) [] [] [] := ⟨Buf.nil _ _, fun g h => by simp [Value.ownBlock] at h, rfl, fun i p d h => by simp at h⟩
theorem GotTs.any {W : World} {v : Value} {l : List TxD} {cs : List Value} {ps : List (Value × Value)} (h : GotTs base W v l cs ps) : ∃ a cap, v = .slice a l.length cap := by
  obtain ⟨a, cap, h1, _⟩ := h.buf.any
  exact ⟨a, cap, h1⟩
theorem GotTs.chg {X : Nat → Prop} {W W' : World} {v : Value} {l : List TxD} {cs : List Value} {ps : List (Value × Value)} (h : GotTs base W v l cs ps) (hc : Chg X W W') (hx : ∀ k, base ≤ k → ¬ X k) : GotTs base W' v l cs ps :=
  ⟨h.buf.chg hc (fun k e => hx k (h.new k e)), h.new, h.plen, fun i p d a b => ⟨((h.each i p d a b).1.chg hc (fun g hg => hx g hg.1) (fun g hg => hx g hg.1) (fun g hg => hx g hg.1)).mono (ButOwn.grow hc.size) (ButOwn.grow hc.size) (ButOwn.grow hc.size), (h.each i p d a b).2⟩⟩
theorem GotTs.txs {W : World} {v : Value} {l : List TxD} {cs : List Value} {ps : List (Value × Value)} (h : GotTs base W v l cs ps) (hs : l.length * 64 ≤ 140737488355328) : RTxs (Btw base W.heap.size) (Btw base W.heap.size) (Btw base W.heap.size) W v l :=
  ⟨cs, ps, h.buf.rd, h.plen, fun i p d a b => ⟨(h.each i p d a b).1.mono (fun _ x => ⟨x.1, x.2.1⟩) (fun _ x => ⟨x.1, x.2.1⟩) (fun _ x => ⟨x.1, x.2.1⟩), (h.each i p d a b).2⟩, hs⟩
/-- what tx.Decode yields is a transaction of new blocks -/
theorem got_btw {b n : Nat} {W : World} {iv ov : Value} {d : TxD} (hv : I32 d.ver) (hl : U32 d.lock) (hi : GotI b n W iv d.ins) (ho : GotO b n W ov d.outs) : RTx (Btw b n) (Btw b n) (Btw b n) W iv ov d := ⟨hv, hl, hi.ins, ho.1⟩
theorem GotTs.after {W W1 w2 : World} {v v' iv ov : Value} {l : List TxD} {cs : List Value} {ps : List (Value × Value)} {d : TxD} (h : GotTs base W v l cs ps) (hb0 : base ≤ W.heap.size) (hk : Keeps W W1) {N : Nat} (hN : N ≤ W1.heap.size) (hd : RTx (Btw W.heap.size N) (Btw W.heap.size N) (Btw W.heap.size N) W1 iv ov d)
    (hb : Buf w2 4 v' (l.length + 1) (cs ++ txCells d iv ov)) (hc : Chg (fun k => v.ownBlock = some k) W1 w2) (hs : SameOrNew W1 v v') : GotTs base w2 v' (l ++ [d]) (cs ++ txCells d iv ov) (ps ++ [(iv, ov)]) := by
  have hcl : cs.length = l.length * 4 := h.buf.1
  have hvl : ∀ g, v.ownBlock = some g → g < W.heap.size := fun g e => h.buf.lt e
  have hw := hk.size
  have hcs := hc.size
  have hnew : ∀ g, ButOwn base W1 v g → ButOwn base w2 v' g := fun g hg => by
    refine ⟨hg.1, Nat.lt_of_lt_of_le hg.2.1 hcs, ?_⟩
    rcases hs with e | ⟨g', e1, e2⟩
    · rw [e]; exact hg.2.2
    · rw [e1]; intro e; cases e; have := hg.2.1; omega
  have hown : ∀ g, Btw W.heap.size N g → ButOwn base W1 v g := fun g hg => by
    obtain ⟨h1, h2⟩ := hg
    exact ⟨by omega, by omega, fun e => by have := hvl g e; omega⟩
  refine ⟨by rw [List.length_append]; exact hb, ?_, by simp [h.plen], ?_⟩
  · intro g hg
    rcases hs with e | ⟨g', e1, e2⟩
    · exact h.new g (by rw [← e]; exact hg)
    · rw [hg] at e1; cases e1; omega
  · intro i p x hp hx
    by_cases hi : i < l.length
    · have hip : i < ps.length := by rw [h.plen]; exact hi
      rw [List.getElem?_append_left hip] at hp
      rw [List.getElem?_append_left hi] at hx
      obtain ⟨e1, e2⟩ := h.each i p x hp hx
      refine ⟨(((e1.keeps hk).mono (ButOwn.grow hw) (ButOwn.grow hw) (ButOwn.grow hw)).chg hc (fun g hg e => hg.2.2 e) (fun g hg e => hg.2.2 e) (fun g hg e => hg.2.2 e)).mono hnew hnew hnew, ?_⟩
      rw [← e2, List.drop_append_of_le_length (by omega), List.take_append_of_le_length (by simp; omega)]
    · have hi' : i = l.length := by
        have := (List.getElem?_eq_some_iff.1 hx).1
        simp at this; omega
      subst hi'
      rw [List.getElem?_append_right (by rw [h.plen]; exact Nat.le_refl _), h.plen] at hp
      rw [List.getElem?_append_right (Nat.le_refl _)] at hx
      simp at hp hx
      subst hp hx
      refine ⟨((hd.mono hown hown hown).chg hc (fun g hg e => hg.2.2 e) (fun g hg e => hg.2.2 e) (fun g hg e => hg.2.2 e)).mono hnew hnew hnew, ?_⟩
      rw [List.drop_append, List.drop_eq_nil_of_le (by omega), hcl, Nat.sub_self, List.drop_zero, List.nil_append, List.take_of_length_le]
      exact Nat.le_refl _
/-- a block's cells -/
def blkCells (h : HdD) (tv : Value) : List Value := hdCells h ++ [tv]
theorem blkCells_len {h : HdD} (tv : Value) (h1 : h.prev.length = 32) (h2 : h.merkle.length = 32) : (blkCells h tv).length = 69 := by simp [blkCells, hdCells_len h1 h2]
theorem blkCells_one (h : HdD) (a : Option Addr) (n c : Nat) : ∀ v ∈ blkCells h (.slice a n c), v.oneCell' = true := by
  intro v hv
  rcases List.mem_append.1 hv with hv | hv
  · exact hdCells_one h v hv
  · rw [List.mem_singleton.1 hv]; rfl
theorem sz_blk {h : HdD} (tv : Value) (h1 : h.prev.length = 32) (h2 : h.merkle.length = 32) : (Tryd.prog.info? 33).map (·.size) = some (blkCells h tv).length := by rw [blkCells_len tv h1 h2]; kernel_rfl
theorem built_blk0 : Tryd.prog.built 33 [] = some (blkCells (hd0 0) (.slice none 0 0)).toArray := by kernel_rfl
theorem blk_at68 {w : World} {q : Nat} {h : HdD} {tv : Value} (hr : Row w q 0 (blkCells h tv)) (h1 : h.prev.length = 32) (h2 : h.merkle.length = 32) : w.cell? ⟨q, 68, none⟩ = some tv ∧ w.frozen? ⟨q, 68, none⟩ = false := by
  have := hr 68 tv (by unfold blkCells; rw [List.getElem?_append_right (by rw [hdCells_len h1 h2]; omega), hdCells_len h1 h2]; rfl)
  simpa using this
theorem blk_set68 {h : HdD} (tv tv' : Value) (h1 : h.prev.length = 32) (h2 : h.merkle.length = 32) : (blkCells h tv).set 68 tv' = blkCells h tv' := by
  unfold blkCells
  rw [List.set_append_right _ _ (by rw [hdCells_len h1 h2]; omega), hdCells_len h1 h2]; rfl
end Go.Proofs.YtcodpdpeklammaaDoor
namespace Go.Proofs.YtcodpdpeklammaaDoor
set_option linter.unusedVariables false
set_option linter.unusedSimpArgs false
open Go Go.RowKit
def SizeS (B g : Nat) (e : Int) (l : List Int) (w : World) (r : Ending) (W' : World) : Prop :=
  Chg (· = g) w W' ∧ ∃ x : Nat, ∃ v' e' l', r = .returned (.int .u64 x) ∧ x ≤ 33554432 ∧ RdAt B W' g v' e' l' ∧ RfR rdSize e l x e' l' ∧ (e' ≠ 0 → x = 0)
theorem size_s {B : Nat} (g : Nat) (v : Value) (e : Int) (l : List Int) (w : World) (h : RdAt B w g v e l) (hB : B ≤ w.heap.size) (hg : g < w.heap.size) :
    Calls Tryd.prog 18 #[.pointer (some ⟨g, 0, none⟩)] w (SizeS B g e l w) := by
  have hby := h.bytes
  refine (rdr_size_any g v e l w h hB hg).mono ?_
  rintro r W' ⟨hc, hcase⟩
  refine ⟨hc, ?_⟩
  rcases hcase with ⟨h0, rfl, hr⟩ | ⟨rfl, x, val, v', l', hp, rfl, rfl, hr⟩ | ⟨rfl, c, hp, rfl, hr⟩
  · exact ⟨0, v, e, l, rfl, by omega, hr, .inl ⟨h0, rfl⟩, fun _ => rfl⟩
  · obtain ⟨a1, a2, _⟩ := rdSize_inv hby hp
    obtain ⟨x, rfl⟩ := Int.eq_ofNat_of_zero_le a1
    exact ⟨x, v', 0, l', rfl, by omega, hr, .inr (.inl ⟨rfl, rfl, hp⟩), fun h => absurd rfl h⟩
  · exact ⟨0, v, c, l, rfl, by omega, hr, .inr (.inr ⟨rfl, rdSize_err hp, hp⟩), fun _ => rfl⟩
theorem blk_sz {l l1 l2 : List Int} {hd : HdD} {e1 e2 x : Int} (h1 : RfR rdHead 0 l hd e1 l1) (h2 : RfR rdSize e1 l1 x e2 l2) :
    (e2 ≠ 0 ∧ rdBlk l = .error e2) ∨ (e2 = 0 ∧ e1 = 0 ∧ rdHead l = .ok (hd, l1) ∧ rdSize l1 = .ok (x, l2)) := by
  rcases h1 with ⟨h, _⟩ | ⟨_, rfl, h1⟩ | ⟨_, hn, h1⟩
  · exact absurd rfl h
  · rcases h2 with ⟨h, _⟩ | ⟨_, rfl, h2⟩ | ⟨_, hn, h2⟩
    · exact absurd rfl h
    · exact .inr ⟨rfl, rfl, h1, h2⟩
    · exact .inl ⟨hn, blk_e2 h1 h2⟩
  · rcases h2 with ⟨_, rfl⟩ | ⟨h, _⟩ | ⟨h, _⟩
    · exact .inl ⟨hn, blk_e1 h1⟩
    · exact absurd h hn
    · exact absurd h hn
theorem built_blk_eq (parts : List (Nat × Value)) : Tryd.prog.built 33 parts = Instr.fill (([(0, 68), (68, 1)] : List (Nat × Nat)).toArray[·]?) (blkCells (hd0 0) (.slice none 0 0)).toArray parts := by kernel_rfl
theorem built_blk {h : HdD} (h1 : h.prev.length = 32) (h2 : h.merkle.length = 32) : Tryd.prog.built 33 [(0, .agg (hdCells h).toArray)] = some (blkCells h (.slice none 0 0)).toArray := by
  rw [built_blk_eq]
  have hl := hdCells_len h1 h2
  have hl0 : (hdCells (hd0 0)).length = 68 := hdCells_len rfl rfl
  have e := fill_at (([(0, 68), (68, 1)] : List (Nat × Nat)).toArray[·]?) [] (hdCells (hd0 0)) [Value.slice none 0 0] (hdCells h) 0 (.agg (hdCells h).toArray) [] rfl (by rw [hl, hl0]) (by rw [hl]; rfl)
  rw [List.nil_append, List.nil_append] at e
  unfold blkCells
  rw [e]; rfl
/-- what block.Decode does -/
def BkDecP (l : List Int) (w : World) (r : Ending) (W : World) : Prop :=
  Keeps w W ∧ ((∃ h txs tv base, decBlk l = .ok (h, txs) ∧ r = .returned (.tuple #[.agg (blkCells h tv).toArray, .int .i64 0]) ∧ HdOk h ∧ w.heap.size ≤ base ∧ RTxs (Btw base W.heap.size) (Btw base W.heap.size) (Btw base W.heap.size) W tv txs) ∨
    (∃ c, decBlk l = .error c ∧ c ≠ 0 ∧ r = .returned (.tuple #[.agg (blkCells (hd0 0) (.slice none 0 0)).toArray, .int .i64 c])))
/-- block.Decode's memory in its loop -/
structure BkL (B base p q g : Nat) (w W : World) (v : Value) (e : Int) (l : List Int) (h : HdD) (tv : Value) (xs : List TxD) (cs : List Value) (ps : List (Value × Value)) : Prop where
  keeps : Keeps w W
  ord : w.heap.size ≤ p ∧ p < g ∧ g < B ∧ B ≤ q ∧ q < base ∧ base ≤ W.heap.size
  res : Row W p 0 (blkCells (hd0 0) (.slice none 0 0))
  loc : Row W q 0 (blkCells h tv)
  rd : RdAt B W g v e l
  got : GotTs base W tv xs cs ps
variable {B base p q g : Nat} {w W W' : World} {v v' : Value} {e e' : Int} {l l' : List Int} {h : HdD} {tv tv' : Value} {xs xs' : List TxD} {cs cs' : List Value} {ps ps' : List (Value × Value)}
theorem BkL.read (s : BkL B base p q g w W v e l h tv xs cs ps) (hc : Chg (· = g) W W') (hr : RdAt B W' g v' e' l') : BkL B base p q g w W' v' e' l' h tv xs cs ps := by
  have o := s.ord
  have hs := hc.size
  exact ⟨keeps_chg s.keeps hc (by omega), by omega, s.res.chg hc (by omega), s.loc.chg hc (by omega), hr, s.got.chg hc (fun k hk e => by omega)⟩
theorem BkL.keep (s : BkL B base p q g w W v e l h tv xs cs ps) (hk : Keeps W W') : BkL B base p q g w W' v e l h tv xs cs ps := by
  have o := s.ord
  have hs := hk.size
  exact ⟨s.keeps.trans hk, by omega, s.res.keeps hk, s.loc.keeps hk, s.rd.keeps hk, s.got.chg (hk.chg (fun _ => False)) (fun _ _ h => h)⟩
theorem BkL.size (s : BkL B base p q g w W v e l h tv xs cs ps) : B ≤ W.heap.size ∧ g < W.heap.size := by
  have o := s.ord
  omega
theorem BkL.appended {W1 w9 : World} {v9 iv ov : Value} {d : TxD} {N : Nat} (s : BkL B base p q g w W v e l h tv xs cs ps) (h1 : h.prev.length = 32) (h2 : h.merkle.length = 32) (hk : Keeps W W1) (hN : N ≤ W1.heap.size) (hd : RTx (Btw W.heap.size N) (Btw W.heap.size N) (Btw W.heap.size N) W1 iv ov d)
    (hb : Buf w9 4 v9 (xs.length + 1) (cs ++ txCells d iv ov)) (hc : Chg (fun k => tv.ownBlock = some k) W1 w9) (hs : SameOrNew W1 tv v9) :
    BkL B base p q g w (w9.setCell ⟨q, 68, none⟩ v9) v e l h v9 (xs ++ [d]) (cs ++ txCells d iv ov) (ps ++ [(iv, ov)]) := by
  have o := s.ord
  have hks := hk.size
  have hcs := hc.size
  have hnew : ∀ k, tv.ownBlock = some k → base ≤ k := s.got.new
  have hnp : ∀ k, k < base → ¬ tv.ownBlock = some k := fun k hk e => by have := hnew k e; omega
  have hg9 := s.got.after (by omega) hk hN hd hb hc hs
  have hq : Chg (· = q) w9 (w9.setCell ⟨q, 68, none⟩ v9) := Chg.cell q 68 _
  have hkw : Keeps w w9 := Below.trans (s.keeps.trans hk) (hc.below (s.keeps.trans hk).size (fun k hk2 e => by have := hnew k e; omega))
  have hloc : Row w9 q 0 (blkCells h tv) := (s.loc.keeps hk).chg hc (hnp q (by omega))
  have hset := hloc.set 68 (by rw [blkCells_len _ h1 h2]; omega) v9
  rw [Nat.zero_add, blk_set68 _ _ h1 h2] at hset
  refine ⟨keeps_chg hkw hq (by omega), ?_, ((s.res.keeps hk).chg hc (hnp p (by omega))).chg hq (by omega), hset, ?_, hg9.chg hq (fun k hk e => by omega)⟩
  · have := hq.size; omega
  · exact ((s.rd.keeps hk).far hc (fun k e => by have := hnew k e; omega) (hnp g (by omega))).far hq (fun k e => by omega) (by omega)
end Go.Proofs.YtcodpdpeklammaaDoor
