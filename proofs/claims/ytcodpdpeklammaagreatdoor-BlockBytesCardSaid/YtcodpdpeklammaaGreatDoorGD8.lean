/- A slice of transactions, as memory reads it; one of one's own. No condition. | strongboxlaw10.few. | A block as bytes, in both. -/
import Derived.Test.YtcodpdpeklammaaGreatDoorGA8
import Derived.Test.YtcodpdpeklammaaGreatDoorGC6
import Derived.Test.YtcodpdpeklammaaGreatDoorGD7
import Derived.Test.YtcodpdpeklammaaGreatDoorGC1
import Derived.Test.YtcodpdpeklammaaGreatDoorGC0
import Derived.Test.YtcodpdpeklammaaGreatDoorGB8
namespace Go.Proofs.YtcodpdpeklammaaGreatDoor
set_option linter.unusedVariables false
set_option linter.unusedSimpArgs false
open Go Go.RowKit

def txCells (d : TxD) (iv ov : Value) : List Value := [.int .i32 d.ver, iv, ov, .int .u32 d.lock]
/-- S: the blocks of bytes, T: those of lists of items, R: those of rows -/
structure RTxsC (S T R : Nat → Prop) (w : World) (v : Value) (l : List TxD) (cs : List Value) (ps : List (Value × Value)) : Prop where
  rd : Rd w 4 v l.length cs
  plen : ps.length = l.length
  each : ∀ (i : Nat) (p : Value × Value) (d : TxD), ps[i]? = some p → l[i]? = some d → RTx S T R w p.1 p.2 d ∧ (cs.drop (i * 4)).take 4 = txCells d p.1 p.2
  small : l.length * 64 ≤ 140737488355328
def RTxs (S T R : Nat → Prop) (w : World) (v : Value) (l : List TxD) : Prop := ∃ cs ps, RTxsC S T R w v l cs ps
theorem RTxs.any {S T R : Nat → Prop} {w : World} {v : Value} {l : List TxD} (h : RTxs S T R w v l) : ∃ a cap, v = .slice a l.length cap ∧ l.length ≤ cap ∧ cap ≤ maxLen := by
  obtain ⟨cs, ps, h⟩ := h
  obtain ⟨_, a, cap, h1, h2, h3, _⟩ := h.rd
  exact ⟨a, cap, h1, h2, h3⟩
theorem RTxs.small {S T R : Nat → Prop} {w : World} {v : Value} {l : List TxD} (h : RTxs S T R w v l) : l.length * 64 ≤ 140737488355328 := by
  obtain ⟨_, _, h⟩ := h; exact h.small
theorem RTxs.keeps {S T R : Nat → Prop} {w w' : World} {v : Value} {l : List TxD} (h : RTxs S T R w v l) (hk : Keeps w w') : RTxs S T R w' v l := by
  obtain ⟨cs, ps, h⟩ := h
  exact ⟨cs, ps, h.rd.keeps hk, h.plen, fun i p d a b => ⟨(h.each i p d a b).1.keeps hk, (h.each i p d a b).2⟩, h.small⟩
theorem RTxs.mono {S T R S' T' R' : Nat → Prop} {w : World} {v : Value} {l : List TxD} (h : RTxs S T R w v l) (hs : ∀ g, S g → S' g) (ht : ∀ g, T g → T' g) (hr : ∀ g, R g → R' g) : RTxs S' T' R' w v l := by
  obtain ⟨cs, ps, h⟩ := h
  exact ⟨cs, ps, h.rd, h.plen, fun i p d a b => ⟨(h.each i p d a b).1.mono hs ht hr, (h.each i p d a b).2⟩, h.small⟩
/-- the element's row -/
theorem RTxs.at {S T R : Nat → Prop} {w : World} {a : Option Addr} {n cap : Nat} {l : List TxD} (h : RTxs S T R w (.slice a n cap) l) {i : Nat} (hi : i < l.length) :
    ∃ g off iv ov d, a = some ⟨g, off, none⟩ ∧ g < w.heap.size ∧ l[i]? = some d ∧ Row w g (off + i * 4) (txCells d iv ov) ∧ RTx S T R w iv ov d := by
  obtain ⟨cs, ps, h⟩ := h
  obtain ⟨h0, a', cap', e, h2, h3, h4, h5⟩ := h.rd
  cases e
  have hpl := h.plen
  cases a with
  | none => have := h4 rfl; omega
  | some ad =>
    obtain ⟨g, off, rfl, hg, hr⟩ := h5 _ rfl (by omega)
    have hp : ps[i]? = some (ps[i]'(by omega)) := List.getElem?_eq_getElem (by omega)
    have hd : l[i]? = some (l[i]'hi) := List.getElem?_eq_getElem hi
    obtain ⟨h6, h7⟩ := h.each i _ _ hp hd
    refine ⟨g, off, _, _, _, rfl, hg, hd, ?_, h6⟩
    rw [← h7]
    exact (hr.drop (i * 4)).take 4
theorem RTxs.take {S T R : Nat → Prop} {w : World} {a : Option Addr} {n cap : Nat} {l : List TxD} (h : RTxs S T R w (.slice a n cap) l) (m : Nat) (hm : m ≤ l.length) : RTxs S T R w (.slice a m cap) (l.take m) := by
  obtain ⟨cs, ps, h⟩ := h
  have hl : (l.take m).length = m := by simp; omega
  obtain ⟨h0, a', cap', e, h2, h3, h4, h5⟩ := h.rd
  cases e
  refine ⟨cs.take (m * 4), ps.take m, ⟨by rw [hl]; simp; omega, a, cap, by rw [hl], by omega, h3, fun e => by have := h4 e; omega, fun ad e hn => ?_⟩, by rw [hl]; simp [h.plen]; omega, ?_, by rw [hl]; have := h.small; omega⟩
  · obtain ⟨g, off, e2, hg, hr⟩ := h5 ad e (by omega)
    exact ⟨g, off, e2, hg, hr.take _⟩
  · intro i p d hp hd
    rw [List.getElem?_take] at hp hd
    split at hp
    · rename_i him
      rw [if_pos him] at hd
      obtain ⟨e1, e2⟩ := h.each i p d hp hd
      refine ⟨e1, ?_⟩
      have h3 : (i + 1) * 4 ≤ m * 4 := Nat.mul_le_mul_right _ him
      rw [List.drop_take, List.take_take, Nat.min_eq_left (by omega)]
      exact e2
    · cases hp
/-- the blocks from B on that are there, but for v's own -/
def ButOwn (B : Nat) (W : World) (v : Value) : Nat → Prop := fun g => B ≤ g ∧ g < W.heap.size ∧ v.ownBlock ≠ some g
/-- a list of transactions of one's own: its row may be appended to, its transactions lie elsewhere -/
structure OwnTs (w W : World) (v : Value) (l : List TxD) (cs : List Value) (ps : List (Value × Value)) : Prop where
  keeps : Keeps w W
  buf : Buf W 4 v l.length cs
  new : ∀ g, v.ownBlock = some g → w.heap.size ≤ g
  plen : ps.length = l.length
  each : ∀ (i : Nat) (p : Value × Value) (d : TxD), ps[i]? = some p → l[i]? = some d → RTx (ButOwn w.heap.size W v) (ButOwn w.heap.size W v) (ButOwn w.heap.size W v) W p.1 p.2 d ∧ (cs.drop (i * 4)).take 4 = txCells d p.1 p.2
theorem OwnTs.nil (w : World) : OwnTs w w (.slice none 0 0) [] [] [] := ⟨Keeps.refl _, Buf.nil _ _, fun g h => by simp [Value.ownBlock] at h, rfl, fun i p d h => by simp at h⟩
theorem OwnTs.any {w W : World} {v : Value} {l : List TxD} {cs : List Value} {ps : List (Value × Value)} (h : OwnTs w W v l cs ps) : ∃ a cap, v = .slice a l.length cap := by
  obtain ⟨a, cap, h1, _⟩ := h.buf.any
  exact ⟨a, cap, h1⟩
theorem ButOwn.grow {B : Nat} {W W' : World} {v : Value} (hs : W.heap.size ≤ W'.heap.size) : ∀ g, ButOwn B W v g → ButOwn B W' v g := fun g h => ⟨h.1, Nat.lt_of_lt_of_le h.2.1 hs, h.2.2⟩
theorem OwnTs.step {w W W' : World} {v : Value} {l : List TxD} {cs : List Value} {ps : List (Value × Value)} (h : OwnTs w W v l cs ps) (hk : Keeps W W') : OwnTs w W' v l cs ps :=
  ⟨h.keeps.trans hk, h.buf.keeps hk, h.new, h.plen, fun i p d a b => ⟨((h.each i p d a b).1.keeps hk).mono (ButOwn.grow hk.size) (ButOwn.grow hk.size) (ButOwn.grow hk.size), (h.each i p d a b).2⟩⟩
/-- the blocks from B to E -/
def Btw (B E : Nat) : Nat → Prop := fun g => B ≤ g ∧ g < E
theorem OwnTs.txs {w W : World} {v : Value} {l : List TxD} {cs : List Value} {ps : List (Value × Value)} (h : OwnTs w W v l cs ps) (hs : l.length * 64 ≤ 140737488355328) : RTxs (Btw w.heap.size W.heap.size) (Btw w.heap.size W.heap.size) (Btw w.heap.size W.heap.size) W v l :=
  ⟨cs, ps, h.buf.rd, h.plen, fun i p d a b => ⟨(h.each i p d a b).1.mono (fun _ x => ⟨x.1, x.2.1⟩) (fun _ x => ⟨x.1, x.2.1⟩) (fun _ x => ⟨x.1, x.2.1⟩), (h.each i p d a b).2⟩, hs⟩
theorem RTxs.chg {S T R X : Nat → Prop} {w w' : World} {v : Value} {l : List TxD} (h : RTxs S T R w v l) (hc : Chg X w w') (hv : ∀ g, v.ownBlock = some g → ¬ X g) (hs : ∀ g, S g → ¬ X g) (ht : ∀ g, T g → ¬ X g) (hr : ∀ g, R g → ¬ X g) : RTxs S T R w' v l := by
  obtain ⟨cs, ps, h⟩ := h
  exact ⟨cs, ps, h.rd.chg hc hv, h.plen, fun i p d a b => ⟨(h.each i p d a b).1.chg hc hs ht hr, (h.each i p d a b).2⟩, h.small⟩
theorem tx_info : (Tryz.prog.info? 46).map (fun i => (i.size, i.bytes)) = some (4, 64) := by kernel_rfl
theorem tx_zero : ((Tryz.prog.info? 46).bind (fun i => i.zero.map (·.cells.size))) = some 4 := by kernel_rfl
theorem OwnTs.after {w W W1 w2 : World} {v v' iv ov : Value} {l : List TxD} {cs : List Value} {ps : List (Value × Value)} {d : TxD} {S T : Nat → Prop} (h : OwnTs w W v l cs ps) (hk : Keeps W W1) (hd : OwnTx S T W.heap.size W1 iv ov d)
    (hb : Buf w2 4 v' (l.length + 1) (cs ++ txCells d iv ov)) (hc : Chg (fun k => v.ownBlock = some k) W1 w2) (hs : SameOrNew W1 v v') : OwnTs w w2 v' (l ++ [d]) (cs ++ txCells d iv ov) (ps ++ [(iv, ov)]) := by
  have hk1 := h.keeps.trans hk
  have hcl : cs.length = l.length * 4 := h.buf.1
  have hvl : ∀ g, v.ownBlock = some g → g < W.heap.size := fun g e => h.buf.lt e
  have hw := hk.size
  have hcs := hc.size
  have hnew : ∀ g, ButOwn w.heap.size W1 v g → ButOwn w.heap.size w2 v' g := fun g hg => by
    refine ⟨hg.1, Nat.lt_of_lt_of_le hg.2.1 hcs, ?_⟩
    rcases hs with e | ⟨g', e1, e2⟩
    · rw [e]; exact hg.2.2
    · rw [e1]; intro e; cases e; have := hg.2.1; omega
  have hown : ∀ g, (S g ∨ T g ∨ iv.ownBlock = some g ∨ ov.ownBlock = some g) → ButOwn w.heap.size W1 v g := fun g hg => by
    have := hd.fresh g hg
    have h0 := h.keeps.size
    exact ⟨by omega, this.2, fun e => by have := hvl g e; omega⟩
  refine ⟨Below.trans hk1 (hc.below hk1.size (fun k hk2 e => by have := h.new k e; omega)), by rw [List.length_append]; exact hb, ?_, by simp [h.plen], ?_⟩
  · intro g hg
    rcases hs with e | ⟨g', e1, e2⟩
    · exact h.new g (by rw [← e]; exact hg)
    · rw [hg] at e1; cases e1; exact Nat.le_trans hk1.size e2
  · intro i p x hp hx
    by_cases hi : i < l.length
    · have hip : i < ps.length := by rw [h.plen]; exact hi
      rw [List.getElem?_append_left hip] at hp
      rw [List.getElem?_append_left hi] at hx
      obtain ⟨e1, e2⟩ := h.each i p x hp hx
      refine ⟨(((e1.keeps hk).mono (ButOwn.grow hw) (ButOwn.grow hw) (ButOwn.grow hw)).chg hc (fun g hg e => hg.2.2 e) (fun g hg e => hg.2.2 e) (fun g hg e => hg.2.2 e)).mono hnew hnew hnew, ?_⟩
      rw [← e2, List.drop_append_of_le_length (by omega), List.take_append_of_le_length (by simp; omega)]
    · have hi' : i = l.length := by
        have := (List.getElem?_eq_some_iff.1 hx).1
        simp at this; omega
      subst hi'
      rw [List.getElem?_append_right (by rw [h.plen]; exact Nat.le_refl _), h.plen] at hp
      rw [List.getElem?_append_right (Nat.le_refl _)] at hx
      simp at hp hx
      subst hp hx
      have hrt : RTx (ButOwn w.heap.size W1 v) (ButOwn w.heap.size W1 v) (ButOwn w.heap.size W1 v) W1 iv ov d := ⟨hd.ver, hd.lock, hd.ins.x.mono (fun g hg => hown g (.inl hg)) (fun g hg => hown g (.inr (.inl hg))) (fun g hg => hown g (.inr (.inr (.inl hg)))), hd.outs.mono (fun g hg => hown g (.inl hg)) (fun g hg => hown g (.inr (.inr (.inr hg))))⟩
      refine ⟨(hrt.chg hc (fun g hg e => hg.2.2 e) (fun g hg e => hg.2.2 e) (fun g hg e => hg.2.2 e)).mono hnew hnew hnew, ?_⟩
      rw [List.drop_append, List.drop_eq_nil_of_le (by omega), hcl, Nat.sub_self, List.drop_zero, List.nil_append, List.take_of_length_le]
      exact Nat.le_refl _
theorem sz_blk (hc : List Value) (tv : Value) (h : hc.length = 68) : (Tryz.prog.info? 29).map (·.size) = some (hc ++ [tv]).length := by rw [List.length_append, h]; kernel_rfl
theorem blk_cell {w : World} {b : Nat} {hc : List Value} {tv : Value} (h : Row w b 0 (hc ++ [tv])) (hl : hc.length = 68) : w.cell? ⟨b, 68, none⟩ = some tv ∧ w.frozen? ⟨b, 68, none⟩ = false := by
  have := h 68 tv (by rw [List.getElem?_append_right (by omega)]; simp [hl])
  simpa using this
theorem blk_one {hc : List Value} {tv : Value} (h : ∀ v ∈ hc, v.oneCell' = true) (ht : tv.oneCell' = true) : ∀ v ∈ hc ++ [tv], v.oneCell' = true := fun v hv => by
  rcases List.mem_append.1 hv with hv | hv
  · exact h v hv
  · simp at hv; rw [hv]; exact ht
theorem blk_set {hc : List Value} {tv u : Value} (hl : hc.length = 68) : (hc ++ [tv]).set 68 u = hc ++ [u] := by
  rw [List.set_append_right _ _ (by omega), hl]; rfl
theorem map_take_snoc {α β : Type} (f : α → β) (l : List α) (i : Nat) (x : α) (h : l[i]? = some x) : (l.take (i + 1)).map f = (l.take i).map f ++ [f x] := by
  rw [List.take_add_one, h]; simp
def zeroBlk : List Value := Value.int .i32 0 :: (List.replicate 64 (Value.int .u8 0) ++ [.int .u32 0, .int .u32 0, .int .u32 0, .slice none 0 0])
set_option maxRecDepth 100000 in
set_option maxHeartbeats 4000000 in
theorem bfew_loop (hc : List Value) (hl : hc.length = 68) (h1 : ∀ v ∈ hc, v.oneCell' = true) (tv : Value) (l : List TxD) (w : World) (h : RTxs AnyB AnyB AnyB w tv l) :
    Calls Tryz.prog 5 #[.agg (hc ++ [tv]).toArray] w fun e w' => ∃ tv' B, w.heap.size ≤ B ∧ (∀ g, tv'.ownBlock = some g → B ≤ g) ∧ e = .returned (.agg (hc ++ [tv']).toArray) ∧ Keeps w w' ∧ RTxs (Btw B w'.heap.size) (Btw B w'.heap.size) (Btw B w'.heap.size) w' tv' ((l.take 12).map (fewD 4 200)) := by
  have HT := Lib.hid h; have HL := Lib.hid hl; have H1 := Lib.hid h1
  obtain ⟨a, cap, rfl, hcap, hcm⟩ := h.any
  have hsm := h.small
  clear h hl h1
  have hsp : ∃ m, m = (l.take 12).length ∧ ((12 < l.length ∧ m = 12) ∨ (¬ 12 < l.length ∧ m = l.length)) := ⟨_, rfl, by simp; omega⟩
  obtain ⟨m, hm, hcase⟩ := hsp
  have hTT : RTxs AnyB AnyB AnyB w (.slice a m cap) (l.take 12) := by
    rcases hcase with ⟨h, rfl⟩ | ⟨h, rfl⟩
    · exact HT.out.take 12 (by omega)
    · rw [List.take_of_length_le (by omega)]
      exact HT.out
  have HTT := Lib.hid hTT; have HM := Lib.hid hm
  clear hTT hm HT
  generalize l.take 12 = L at *
  rcases hcase with ⟨hb, rfl⟩ | ⟨hb, rfl⟩
  all_goals
    go_enter Tryz.func5, Tryz.ntmps5
    go_upto_region 1 with (fail)
    refine wp_rows2 (fun W0 hk hr1 hr2 hsz => ?_)
    have hr1 : Row W0 w.heap.size 0 (hc ++ [.slice a l.length cap]) := by simpa using hr1
    have hr2 : Row W0 (w.heap.size + 1) 0 zeroBlk := hr2
    obtain ⟨p, hp⟩ : ∃ p, p = w.heap.size := ⟨_, rfl⟩
    rw [← hp] at hr1 hr2 hsz ⊢
    have HP := Lib.hid hp; have HK := Lib.hid hk; have HR1 := Lib.hid hr1; have HR2 := Lib.hid hr2; have HSZ := Lib.hid hsz
    obtain ⟨b0, f0⟩ := blk_cell hr1 HL.out
    clear hp hk hr1 hr2 hsz
    go_upto_region 3 with (fail)
    refine wp_gen (fun W => Keeps w W ∧ Row W p 0 (hc ++ [.slice a L.length cap]) ∧ Row W (p + 1) 0 zeroBlk ∧ W.heap.size = p + 2) ?_ ?_
    focus
      first
        | exact ⟨keeps_chg HK.out (Chg.cell p 68 _) (by have := HP.out; omega), by
            have := HR1.out.set 68 (by rw [List.length_append, HL.out]; simp) (.slice a 12 cap)
            rw [blk_set HL.out] at this
            rw [← HM.out]
            simpa using this, HR2.out.other (show p + 1 ≠ p by omega) _, by simpa using HSZ.out⟩
        | exact ⟨HK.out, by have := HR1.out; rw [HM.out] at this; exact this, HR2.out, HSZ.out⟩
    rw [HM.out] at HTT
    clear HR1 HR2 HSZ HK b0 f0
    intro W1 ⟨hk, hr1, hr2, hsz⟩
    have HK := Lib.hid hk; have HR1 := Lib.hid hr1; have HR2 := Lib.hid hr2; have HSZ := Lib.hid hsz
    obtain ⟨b0, -⟩ := blk_cell hr1 HL.out
    clear hk hr1 hr2 hsz
    have hLs : L.length * 64 ≤ 140737488355328 := HTT.out.small
    obtain ⟨i0, z0, hi, hz0, hz1, hz2, hz3⟩ := info2_any tx_info tx_zero
    have HI := Lib.hid hi; have HZ0 := Lib.hid hz0; have HZ1 := Lib.hid hz1; have HZ2 := Lib.hid hz2; have HZ3 := Lib.hid hz3
    clear hi hz0 hz1 hz2 hz3
    try clear hb
    go_wp2
    go_loopw [3, 17] (fun v c wr => ∃ i : Nat, i ≤ L.length ∧ c = .int .i64 i ∧ ∃ cs ps, Hid (OwnTs W1 wr v ((L.take i).map (fewD 4 200)) cs ps)) (fun _ c _ => (L.length - intOf c).toNat)
    case atStart => exact ⟨0, by omega, rfl, _, _, Lib.hid (OwnTs.nil _)⟩
    case round =>
      obtain ⟨i, hi, rfl, cs, ps, HOW⟩ := hrel
      clear b0
      by_cases hlt : i < L.length
      · obtain ⟨g, off, iv, ov, d, rfl, hg, hdi, hrow, hrtx⟩ := (HTT.out.keeps (HK.out.trans HOW.out.keeps)).at hlt
        have HDI := Lib.hid hdi; have HROW := Lib.hid hrow; have HRTX := Lib.hid hrtx
        obtain ⟨va, vc, hv⟩ := HOW.out.any
        have hil : ((L.take i).map (fewD 4 200)).length = i := by simp; omega
        have HIL := Lib.hid hil
        rw [hil] at hv
        subst hv
        have HBF : Hid (Buf wr 4 (.slice va i vc) i cs) := Lib.hid (by have := HOW.out.buf; rw [hil] at this; exact this)
        obtain ⟨ia, ic, rfl, -⟩ := hrtx.ins.any
        obtain ⟨oa, oc, rfl, -⟩ := hrtx.outs.any
        clear hdi hrow hrtx hil
        go_upto_region 7 with (first | ((with_reducible refine gate_load 46 (.tmp 19) ?_); refine wpList_load_at rfl 46 (.tmp 19) rfl g (off + i * 4) rfl _ _ HROW.out Tryz.underlying46 rfl (sz_tx _ _ _ _) ?_) | ((with_reducible refine gate_store 46 (.tmp 5) (.tmp 20) ?_); refine wpList_store_row rfl 46 (.tmp 5) (.tmp 20) rfl _ 0 rfl _ (txCells d _ _) rfl (Row.new [.int .i32 0, .slice none 0 0, .slice none 0 0, .int .u32 0] _ _ rfl) rfl (sz_tx _ _ _ _) (four_one _ _ _ _ _ _ _ _) ?_; intro W5 hr5 hc5; have HR5 := Lib.hid hr5; have HC5 := Lib.hid hc5; clear hr5 hc5))
        have HK5 := Lib.hid (keeps_chg (keeps_alloc (Keeps.refl wr) _) HC5.out (Nat.le_refl _))
        obtain ⟨q, hq⟩ : ∃ q, q = wr.heap.size := ⟨_, rfl⟩
        rw [← hq] at HR5 ⊢
        clear hq HC5
        have HFW := Lib.hid (rfew_any AnyB AnyB AnyB 4 200 (by omega) (by omega) d _ _ W5 (HRTX.out.keeps HK5.out))
        go_wp2_with (first | ((with_reducible refine gate_load 46 (.tmp 5) ?_); refine wpList_load_at rfl 46 (.tmp 5) rfl q 0 rfl _ _ HR5.out Tryz.underlying46 rfl (sz_tx _ _ _ _) ?_) | (go_at_call 20; refine HFW.out.mono ?_; rintro e W6 ⟨iv6, ov6, rfl, hk6, S6, T6, ho6⟩; obtain ⟨ia6, ic6, rfl, -⟩ := ho6.rtx.ins.any; obtain ⟨oa6, oc6, rfl, -⟩ := ho6.rtx.outs.any; have HK6 := Lib.hid hk6; have HO6 := Lib.hid ho6; clear hk6 ho6) | (refine wpList_buildSlice1 rfl 27 46 _ rfl 4 64 Tryz.underlying27 tx_info tx_zero (by decide) (txCells (fewD 4 200 d) _ _) rfl rfl ?_) | (at_builtin; refine wpList_append_buf rfl _ _ 27 27 rfl 46 i0 z0 4 64 Tryz.underlying27 HI.out HZ0.out HZ1.out HZ2.out HZ3.out (by decide) (.slice va i vc) i cs rfl ((HBF.out.keeps HK5.out).keeps (HK6.out.trans (keeps_alloc (Keeps.refl _) _))) _ rfl 1 (txCells (fewD 4 200 d) _ _) (Src.row Tryz.underlying27 rfl (Row.new (txCells (fewD 4 200 d) _ _) _ 46 rfl) (four_one _ _ _ _ _ _ _ _)) (by unfold maxLen; omega) (by omega) ?_; intro v9 w9 hb9 hc9 hs9 _; have HB9 := Lib.hid hb9; have HC9 := Lib.hid hc9; have HS9 := Lib.hid hs9; clear hb9 hc9 hs9))
        have h9 := (HOW.out.step HK5.out).after (HK6.out.trans (keeps_alloc (Keeps.refl _) _)) (HO6.out.keeps (keeps_alloc (Keeps.refl _) _)) (by rw [HIL.out]; exact HB9.out) HC9.out HS9.out
        rw [← map_take_snoc (fewD 4 200) L i d HDI.out] at h9
        have H9 := Lib.hid h9
        clear h9 HB9 HC9 HS9
        go_roundw
        case rel => exact ⟨i + 1, by omega, by go_num, _, _, H9⟩
        case measure => simp [intOf]; omega
      · obtain rfl : L.length = i := by omega
        rw [List.take_length] at HOW
        have hml : (L.map (fewD 4 200)).length = L.length := by simp
        obtain ⟨va, vc, hv⟩ := HOW.out.any
        rw [hml] at hv
        subst hv
        have htx := HOW.out.txs (by rw [hml]; exact hLs)
        have HTX := Lib.hid htx
        have HKW := Lib.hid (HOW.out.keeps)
        have hnew : ∀ g, (Value.slice va L.length vc).ownBlock = some g → W1.heap.size ≤ g := HOW.out.new
        have HNW := Lib.hid hnew
        have HRp := Lib.hid (HR1.out.keeps HKW.out); have HRq := Lib.hid (HR2.out.keeps HKW.out)
        obtain ⟨b0, f0⟩ := blk_cell HRp.out HL.out
        clear htx hnew HOW hml
        go_upto_region 10 with (fail)
        have hrp : Row (wr.setCell ⟨p, 68, none⟩ (.slice va L.length vc)) p 0 (hc ++ [.slice va L.length vc]) := by
          have := HRp.out.set 68 (by rw [List.length_append, HL.out]; simp) (.slice va L.length vc)
          rw [blk_set HL.out] at this
          simpa using this
        have hrq : Row (wr.setCell ⟨p, 68, none⟩ (.slice va L.length vc)) (p + 1) 0 zeroBlk := HRq.out.other (show p + 1 ≠ p by omega) _
        have hxc := Chg.cell (W := wr) p 68 (.slice va L.length vc)
        have HRP := Lib.hid hrp; have HRQ := Lib.hid hrq; have HXC := Lib.hid hxc
        clear hrp hrq hxc b0 f0 HRp HRq
        generalize wr.setCell ⟨p, 68, none⟩ (.slice va L.length vc) = WY at *
        go_wp2_with (first | ((with_reducible refine gate_load 29 (.tmp 1) ?_); refine wpList_load_at rfl 29 (.tmp 1) rfl p 0 rfl _ _ HRP.out Tryz.underlying29 rfl (sz_blk _ _ HL.out) ?_) | ((with_reducible refine gate_store 29 (.tmp 2) (.tmp 29) ?_); refine wpList_store_row rfl 29 (.tmp 2) (.tmp 29) rfl (p + 1) 0 rfl zeroBlk (hc ++ [.slice va L.length vc]) rfl HRQ.out (by rw [List.length_append, HL.out]; rfl) (sz_blk _ _ HL.out) (blk_one H1.out rfl) ?_; intro W9 hr9 hc9; have HR9 := Lib.hid hr9; have HC9 := Lib.hid hc9; clear hr9 hc9))
        refine bodyPost_ret (results_cell_at rfl _ _ (p + 1) 0 _ _ (by simp only [Act.put, List.setIfInBounds_toArray, List.set_cons_zero, List.set_cons_succ]; rfl) HR9.out Tryz.underlying29 rfl (sz_blk _ _ HL.out)) rfl ?_
        have hpp := HP.out; have hszz := HSZ.out
        have y1 : Chg (fun g => g = p ∨ g = p + 1) wr W9 := (HXC.out.mono (fun g _ h => .inl h)).trans (HC9.out.mono (fun g _ h => .inr h))
        have hle := y1.size
        have hsl := HKW.out.size
        refine ⟨_, W1.heap.size, HK.out.size, HNW.out, rfl, keeps_chg (keeps_chg (HK.out.trans HKW.out) HXC.out (by omega)) HC9.out (by omega), ?_⟩
        refine (HTX.out.chg y1 (fun g e hx => by have := HNW.out g e; omega) (fun g hg hx => by have := hg.1; omega) (fun g hg hx => by have := hg.1; omega) (fun g hg hx => by have := hg.1; omega)).mono (fun g hg => ⟨hg.1, Nat.lt_of_lt_of_le hg.2 hle⟩) (fun g hg => ⟨hg.1, Nat.lt_of_lt_of_le hg.2 hle⟩) (fun g hg => ⟨hg.1, Nat.lt_of_lt_of_le hg.2 hle⟩)
def txB (d : TxD) : List Int := textB (encB d true)
/-- a block's bytes -/
def blkB (hb : List Int) (l : List TxD) : List Int := hb ++ sizeB (l.length : Int) ++ l.flatMap txB
theorem txB_le (d : TxD) (h : Fits d) : (txB d).length ≤ 1000000000020 := by
  have h1 := enc_le d true h
  have h2 := sizeB_len ((encB d true).length : Int)
  have h3 : (txB d).length = (sizeB ((encB d true).length : Int)).length + (encB d true).length := by unfold txB textB; simp
  omega
theorem txflat_le : ∀ (l : List TxD), (∀ d ∈ l, Fits d) → (l.flatMap txB).length ≤ l.length * 1000000000020
  | [], _ => by simp
  | d :: r, h => by
    have h1 := txB_le d (h d (by simp))
    have h2 := txflat_le r (fun x hx => h x (by simp [hx]))
    rw [List.flatMap_cons, List.length_append, List.length_cons]
    omega
theorem WrAt.step {w0 W W' : World} {g : Nat} {v : Value} {n : Nat} {l : List Int} (h : WrAt w0 W g v n l) (hk : Keeps W W') : WrAt w0 W' g v n l := ⟨h.own.step hk, h.row.keeps hk, h.new, h.apart⟩
theorem blk_head {w : World} {p : Nat} {hc : List Value} {tv : Value} (h : Row w p 0 (hc ++ [tv])) (hl : hc.length = 68) : Row w p 0 hc := by
  have := h.take 68
  rwa [List.take_left' hl] at this
/-- what was just made lies apart from the writer -/
theorem own_apart {W wr W5 W6 : World} {g n m : Nat} {v x : Value} {l xs : List Int} (hO : Own W5 W6 x m xs) (hk : Keeps wr W5) (hw : WrAt W wr g v n l) : ∀ b, x.ownBlock = some b → b ≠ g ∧ v.ownBlock ≠ some b ∧ b < W6.heap.size := by
  intro b hb
  have h1 := hO.new b hb
  have h2 := hO.buf.lt hb
  have h3 := hk.size
  have h4 : g < wr.heap.size := hw.row.lt (by simp)
  refine ⟨by omega, fun e => ?_, h2⟩
  have := hw.own.buf.lt e
  omega
set_option maxRecDepth 100000 in
set_option maxHeartbeats 8000000 in
theorem benc_any (ver : Int) (prev merkle : List Int) (t b n : Int) (hok : HeadOk ver prev merkle t b n) (S T R : Nat → Prop) (tv : Value) (l : List TxD) (hf : ∀ d ∈ l, Fits d) (h12 : l.length ≤ 12) (w : World) (h : RTxs S T R w tv l) (hS : ∀ g, S g → g < w.heap.size) :
    Calls Tryz.prog 6 #[.agg (headCells ver prev merkle t b n ++ [tv]).toArray] w fun e w' => ∃ v, e = .returned v ∧ Own w w' v (blkB (headB ver prev merkle t b n) l).length (blkB (headB ver prev merkle t b n) l) := by
  have HT := Lib.hid h; have HF := Lib.hid hf; have HS := Lib.hid hS
  obtain ⟨a, cap, rfl, hcap, hcm⟩ := h.any
  have hl := headCells_length hok
  have HE := Lib.hid (fun W => encodeHeader_any ver prev merkle t b n hok.prevLen hok.merkleLen hok.time hok.bits hok.nonce W)
  have ZH : Hid ((Tryz.prog.info? 26).map (·.size) = some (headCells ver prev merkle t b n).length) := Lib.hid (sz_head ver prev merkle t b n hok.prevLen hok.merkleLen)
  have hfl := txflat_le l hf
  have hft : ∀ i, ((l.take i).flatMap txB).length ≤ (l.flatMap txB).length := fun i => flat_take_le txB l i
  have HFT := Lib.hid hft
  have hbl : (headB ver prev merkle t b n).length = 80 := by unfold headB; simp [leB_length, hok.prevLen, hok.merkleLen]
  have hbb : blkB (headB ver prev merkle t b n) l = headB ver prev merkle t b n ++ sizeB (l.length : Int) ++ l.flatMap txB := rfl
  rw [hbb]
  have hsl := sizeB_len (l.length : Int)
  have HLL := Lib.hid hl
  clear h hf hS hok hbb hft hl
  generalize headCells ver prev merkle t b n = HC at *
  generalize headB ver prev merkle t b n = HB at *
  go_enter Tryz.func6, Tryz.ntmps6
  go_upto_region 1 with (fail)
  refine wp_rows1 (fun W hk hr hs => ?_)
  obtain ⟨p, hp'⟩ : ∃ p, p = w.heap.size := ⟨_, rfl⟩
  rw [← hp'] at hr hs ⊢
  have HR := Lib.hid (show Row W p 0 (HC ++ [.slice a l.length cap]) by simpa using hr); have HK := Lib.hid hk
  clear hr hk hs hp'
  go_upto_region 2 with (fail)
  have hw0 : WrAt W (W.alloc (.cells #[.slice none 0 0] 58)) W.heap.size (.slice none 0 0) 0 [] := ⟨(Own.nil W).step (keeps_alloc (Keeps.refl _) _), Row.new _ _ _ rfl, Nat.le_refl _, by simp [Value.ownBlock]⟩
  obtain ⟨g, hg⟩ : ∃ g, g = W.heap.size := ⟨_, rfl⟩
  rw [← hg] at hw0 ⊢
  generalize W.alloc (.cells #[.slice none 0 0] 58) = W0 at *
  have HW0 := Lib.hid hw0
  have HG := Lib.hid hg
  clear hw0 hg
  have HRB := Lib.hid (blk_head HR.out HLL.out)
  have HBC := Lib.hid (fun W' (hk : Keeps W W') => (blk_cell (HR.out.keeps hk) HLL.out).1)
  go_upto_region 3 with (first | ((with_reducible refine gate_load 26 (.tmp 6) ?_); refine wpList_load_at rfl 26 (.tmp 6) rfl p 0 rfl _ _ (HRB.out.keeps HW0.out.own.keeps) Tryz.underlying26 rfl ZH.out ?_) | (go_at_call 7; refine (HE.out _).mono ?_; rintro e W1 ⟨v1, rfl, hO1⟩; have HO1 := Lib.hid hO1; clear hO1) | (go_at_call 21; refine (wraw_any W g _ _ _ _ 80 HB (by omega) _ (HW0.out.step HO1.out.keeps) HO1.out.rd).mono ?_; rintro e W2 ⟨rfl, v2, hv2, hg2⟩; have HW2 := Lib.hid hv2; clear hv2 hg2))
  have b0 := HBC.out _ HW2.out.own.keeps
  have hmw : IntKind.u64.wrap (l.length : Int) = l.length := by rw [IntKind.wrap_u64]; omega
  go_upto_region 4 with (go_at_call 22; refine (wsize_any W g _ _ _ (l.length : Int) (by omega) (by omega) (by omega) _ HW2.out).mono ?_; rintro e W3 ⟨rfl, v3, hv3, hg3⟩; have HW3 := Lib.hid hv3; clear hv3 hg3)
  have b1 := HBC.out _ HW3.out.own.keeps
  have hv3 := HW3.out.norm (r := HB ++ sizeB (l.length : Int)) (by simp)
  have hpl : (HB ++ sizeB (l.length : Int)).length ≤ 89 := by rw [List.length_append]; omega
  generalize hPS : HB ++ sizeB (l.length : Int) = PS at *
  have HPS := Lib.hid hPS
  have HV3 := Lib.hid hv3
  have hbig : (l.flatMap txB).length ≤ 12000000000240 := by
    have : l.length * 1000000000020 ≤ 12 * 1000000000020 := Nat.mul_le_mul_right _ h12
    omega
  clear hv3 hPS hfl HW3 HW2 HW0 HO1 hsl b0 hmw
  go_wp2
  go_loopw [18] (fun c wr => ∃ i : Nat, i ≤ l.length ∧ c = .int .i64 i ∧ ∃ v, Hid (WrAt W wr g v (PS ++ (l.take i).flatMap txB).length (PS ++ (l.take i).flatMap txB))) (fun c _ => (l.length - intOf c).toNat)
  case atStart => exact ⟨0, by omega, rfl, _, Lib.hid (HV3.out.norm (by simp))⟩
  case round =>
    obtain ⟨i, hi, rfl, v, HV⟩ := hrel
    clear b1
    by_cases hlt : i < l.length
    · obtain ⟨g2, off, iv, ov, d, rfl, hg2, hdi, hrow, hrtx⟩ := (HT.out.keeps (HK.out.trans HV.out.own.keeps)).at hlt
      have hfd := HF.out d (List.mem_of_getElem? hdi)
      have HE2 := Lib.hid (fun W' (hk : Keeps wr W') => enc_any S T R d iv ov true hfd W' (hrtx.keeps hk) (fun x hx => Nat.lt_of_lt_of_le (HS.out x hx) ((HK.out.trans HV.out.own.keeps).trans hk).size))
      have hstep := take_flat txB l i d hdi
      have htb : txB d = textB (encB d true) := rfl
      have hle := enc_le d true hfd
      have hb2 := HFT.out i
      have HROW := Lib.hid hrow; have HSTEP := Lib.hid hstep; have HTB := Lib.hid htb
      obtain ⟨ia, ic, rfl, -⟩ := hrtx.ins.any
      obtain ⟨oa, oc, rfl, -⟩ := hrtx.outs.any
      clear hdi hrow hrtx hfd hstep htb
      generalize encB d true = EB at *
      generalize (l.take i).flatMap txB = QL at *
      have hqq : (PS ++ QL).length ≤ 12000000000400 := by rw [List.length_append]; omega
      generalize hPX : PS ++ QL = PX at *
      have HPX := Lib.hid hPX
      clear hPX
      go_upto_region 7 with (first | ((with_reducible refine gate_load 46 (.tmp 20) ?_); refine wpList_load_at rfl 46 (.tmp 20) rfl g2 (off + i * 4) rfl _ _ HROW.out Tryz.underlying46 rfl (sz_tx _ _ _ _) ?_) | ((with_reducible refine gate_store 46 (.tmp 5) (.tmp 21) ?_); refine wpList_store_row rfl 46 (.tmp 5) (.tmp 21) rfl _ 0 rfl _ (txCells d _ _) rfl (Row.new [.int .i32 0, .slice none 0 0, .slice none 0 0, .int .u32 0] _ _ rfl) rfl (sz_tx _ _ _ _) (four_one _ _ _ _ _ _ _ _) ?_; intro W5 hr5 hc5; have HR5 := Lib.hid hr5; have HC5 := Lib.hid hc5; clear hr5 hc5))
      have HK5 := Lib.hid (keeps_chg (keeps_alloc (Keeps.refl wr) _) HC5.out (Nat.le_refl _))
      have hgw : g < wr.heap.size := HV.out.row.lt (by simp)
      obtain ⟨q, hq⟩ : ∃ q, q = wr.heap.size := ⟨_, rfl⟩
      rw [← hq] at HR5 ⊢
      have HQ := Lib.hid hq
      clear hq HC5
      go_wp2_with (first | ((with_reducible refine gate_load 46 (.tmp 5) ?_); refine wpList_load_at rfl 46 (.tmp 5) rfl q 0 rfl _ _ HR5.out Tryz.underlying46 rfl (sz_tx _ _ _ _) ?_) | (go_at_call 24; refine (HE2.out _ HK5.out).mono ?_; rintro e W6 ⟨v6, rfl, hO6⟩; obtain ⟨a6, c6, rfl⟩ := hO6.any; have HO6 := Lib.hid hO6; clear hO6) | (go_at_call 23; refine (wbytes_any W g _ _ _ _ EB (by omega) _ (HV.out.step (HK5.out.trans HO6.out.keeps)) HO6.out.rd (own_apart HO6.out HK5.out HV.out)).mono ?_; rintro e W10 ⟨rfl, v10, hv10, hg10⟩; have HV10 := Lib.hid hv10; clear hv10 hg10))
      go_roundw
      case rel => exact ⟨i + 1, by omega, by go_num, _, Lib.hid (HV10.out.norm (by rw [HSTEP.out, ← HPX.out, HTB.out, List.append_assoc]))⟩
      case measure => simp [intOf]; omega
    · obtain rfl : i = l.length := by omega
      rw [List.take_length] at HV
      have hqq : (PS ++ l.flatMap txB).length ≤ 12000000000400 := by rw [List.length_append]; omega
      generalize hPX : PS ++ l.flatMap txB = PX at *
      have HPX := Lib.hid hPX
      clear hPX
      go_wp2_with (go_at_call 25; refine (wout_any W g _ _ _ (by omega) _ HV.out).mono ?_; rintro e W17 ⟨v17, rfl, hO17⟩; have HO17 := Lib.hid hO17; clear hO17)
      go_ret
      exact ⟨v17, rfl, by rw [HPS.out, HPX.out]; exact Own.keepsW (HK.out.trans HV.out.own.keeps) HO17.out⟩
set_option maxRecDepth 100000 in
set_option maxHeartbeats 8000000 in
theorem rbenc_any (ver : Int) (prev merkle : List Int) (t b n : Int) (hok : HeadOk ver prev merkle t b n) (S T R : Nat → Prop) (tv : Value) (l : List TxD) (hf : ∀ d ∈ l, Fits d) (h12 : l.length ≤ 12) (w : World) (h : RTxs S T R w tv l) :
    Calls Tryz.prog 10 #[.agg (headCells ver prev merkle t b n ++ [tv]).toArray] w fun e w' => ∃ v, e = .returned v ∧ Own w w' v (blkB (headB ver prev merkle t b n) l).length (blkB (headB ver prev merkle t b n) l) := by
  have HT := Lib.hid h; have HF := Lib.hid hf
  obtain ⟨a, cap, rfl, hcap, hcm⟩ := h.any
  have hl := headCells_length hok
  have HE := Lib.hid (fun W => rencodeHeader_any ver prev merkle t b n hok.prevLen hok.merkleLen hok.time hok.bits hok.nonce W)
  have HSZ := Lib.hid (fun W => size_any (l.length : Int) (by omega) (by omega) W)
  have ZH : Hid ((Tryz.prog.info? 26).map (·.size) = some (headCells ver prev merkle t b n).length) := Lib.hid (sz_head ver prev merkle t b n hok.prevLen hok.merkleLen)
  have hfl := txflat_le l hf
  have hft : ∀ i, ((l.take i).flatMap txB).length ≤ (l.flatMap txB).length := fun i => flat_take_le txB l i
  have HFT := Lib.hid hft
  have hbl : (headB ver prev merkle t b n).length = 80 := by unfold headB; simp [leB_length, hok.prevLen, hok.merkleLen]
  have hbb : blkB (headB ver prev merkle t b n) l = headB ver prev merkle t b n ++ sizeB (l.length : Int) ++ l.flatMap txB := rfl
  rw [hbb]
  have hsl := sizeB_len (l.length : Int)
  have hmw : IntKind.u64.wrap (l.length : Int) = l.length := by rw [IntKind.wrap_u64]; omega
  have HLL := Lib.hid hl; have HBL := Lib.hid hbl
  have hbig : (l.flatMap txB).length ≤ 12000000000240 := by
    have : l.length * 1000000000020 ≤ 12 * 1000000000020 := Nat.mul_le_mul_right _ h12
    omega
  clear h hf hok hbb hft hl hfl
  generalize headCells ver prev merkle t b n = HC at *
  generalize headB ver prev merkle t b n = HB at *
  generalize sizeB (l.length : Int) = SB at *
  go_enter Tryz.func10, Tryz.ntmps10
  go_upto_region 1 with (fail)
  refine wp_rows1 (fun W0 hk hr hs => ?_)
  obtain ⟨p, hp'⟩ : ∃ p, p = w.heap.size := ⟨_, rfl⟩
  rw [← hp'] at hr hs ⊢
  have HR := Lib.hid (show Row W0 p 0 (HC ++ [.slice a l.length cap]) by simpa using hr); have HK := Lib.hid hk
  clear hr hk hs hp'
  have HRB := Lib.hid (blk_head HR.out HLL.out)
  have HBC := Lib.hid (fun W' (hk : Keeps W0 W') => (blk_cell (HR.out.keeps hk) HLL.out).1)
  refine wp_region_head (S := fun W => Hid ((fun W' => Keeps W0 W' ∧ W'.cell? ⟨p, 68, none⟩ = some (.slice a l.length cap)) W)) 8 (by kernel_rfl) (by kernel_rfl) ?_ (fun hHeld => ?_)
  focus exact Lib.hid ⟨keeps_drew (Keeps.refl W0), HBC.out _ (keeps_drew (Keeps.refl W0))⟩
  refine wpAnyHL_take (i := 0) (oi := ?_) (v := ?_) ?_ ?_ ?_ ?_ ?_ ?_ ?_ ?_ ?_ (Or.inl ⟨?_, ?_⟩) ?_ ?_
  rotate_left 2
  focus (simp only [List.getElem?_toArray, List.getElem?_cons_succ, List.getElem?_cons_zero]; exact rfl)
  iterate 7 focus kernel_rfl
  focus (exact fun _ _ _ h => h)
  focus rfl
  focus ((intro wSw hSw; (have hSw := hSw.out); (try dsimp only at hSw); go_simp) <;> with_reducible rfl)
  focus assumption
  try simp only [Act.put, List.setIfInBounds_toArray, List.set_cons_zero, List.set_cons_succ]
  refine wpAnyHL_take (i := 1) (oi := ?_) (v := ?_) ?_ ?_ ?_ ?_ ?_ ?_ ?_ ?_ ?_ (Or.inl ⟨?_, ?_⟩) ?_ ?_
  rotate_left 2
  focus (simp only [List.getElem?_toArray, List.getElem?_cons_succ, List.getElem?_cons_zero]; exact rfl)
  iterate 7 focus kernel_rfl
  focus (exact fun _ _ _ h => h)
  focus rfl
  focus (intro wSw hSw; (have hSw := hSw.out); (refine run_load_row 26 (.tmp 5) ?_ p 0 ?_ _ _ (HRB.out.keeps hSw.1) Tryz.underlying26 rfl ZH.out) <;> rfl)
  focus assumption
  try simp only [Act.put, List.setIfInBounds_toArray, List.set_cons_zero, List.set_cons_succ]
  refine wpAnyHL_take (i := 3) (oi := ?_) (v := ?_) ?_ ?_ ?_ ?_ ?_ ?_ ?_ ?_ ?_ (Or.inl ⟨?_, ?_⟩) ?_ ?_
  rotate_left 2
  focus (simp only [List.getElem?_toArray, List.getElem?_cons_succ, List.getElem?_cons_zero]; exact rfl)
  iterate 7 focus kernel_rfl
  focus (exact fun _ _ _ h => h)
  focus rfl
  focus ((intro wSw hSw; (have hSw := hSw.out); (try dsimp only at hSw); go_simp) <;> with_reducible rfl)
  focus assumption
  try simp only [Act.put, List.setIfInBounds_toArray, List.set_cons_zero, List.set_cons_succ]
  refine wpAnyHL_take (i := 4) (oi := ?_) (v := ?_) ?_ ?_ ?_ ?_ ?_ ?_ ?_ ?_ ?_ (Or.inl ⟨?_, ?_⟩) ?_ ?_
  rotate_left 2
  focus (simp only [List.getElem?_toArray, List.getElem?_cons_succ, List.getElem?_cons_zero]; exact rfl)
  iterate 7 focus kernel_rfl
  focus (exact fun _ _ _ h => h)
  focus rfl
  focus ((intro wSw hSw; (have hSw := hSw.out); (try dsimp only at hSw); go_simp) <;> with_reducible rfl)
  focus assumption
  try simp only [Act.put, List.setIfInBounds_toArray, List.set_cons_zero, List.set_cons_succ]
  refine wpAnyHL_take (i := 5) (oi := ?_) (v := ?_) ?_ ?_ ?_ ?_ ?_ ?_ ?_ ?_ ?_ (Or.inl ⟨?_, ?_⟩) ?_ ?_
  rotate_left 2
  focus (simp only [List.getElem?_toArray, List.getElem?_cons_succ, List.getElem?_cons_zero]; exact rfl)
  iterate 7 focus kernel_rfl
  focus (exact fun _ _ _ h => h)
  focus rfl
  focus ((intro wSw hSw; (have hSw := hSw.out); (try dsimp only at hSw); go_simp) <;> with_reducible rfl)
  focus assumption
  try simp only [Act.put, List.setIfInBounds_toArray, List.set_cons_zero, List.set_cons_succ]
  refine wpAnyHL_take (i := 6) (oi := ?_) (v := ?_) ?_ ?_ ?_ ?_ ?_ ?_ ?_ ?_ ?_ (Or.inl ⟨?_, ?_⟩) ?_ ?_
  rotate_left 2
  focus (simp only [List.getElem?_toArray, List.getElem?_cons_succ, List.getElem?_cons_zero]; exact rfl)
  iterate 7 focus kernel_rfl
  focus (exact fun _ _ _ h => h)
  focus rfl
  focus ((intro wSw hSw; (have hSw := hSw.out); (try dsimp only at hSw); go_simp) <;> with_reducible rfl)
  focus assumption
  try simp only [Act.put, List.setIfInBounds_toArray, List.set_cons_zero, List.set_cons_succ]
  refine wpAnyHL_one (i := 2) (o := ?_) (by kernel_rfl) (by kernel_rfl) ?_ ?_
  rotate_left 1
  focus (simp only [List.getElem?_toArray, List.getElem?_cons_succ, List.getElem?_cons_zero]; exact rfl)
  go_wp2_with (go_at_call 11; refine (HE.out _).mono ?_; rintro e W1 ⟨v1, rfl, hO1⟩; obtain ⟨a1, c1, rfl⟩ := hO1.any; have HO1 := Lib.hid hO1; clear hO1)
  try dsimp only [StepQ]
  refine ⟨?_, fun hHeld => ?_⟩
  focus (exact Lib.hid (⟨hHeld.out.1.trans HO1.out.keeps, HBC.out _ (hHeld.out.1.trans HO1.out.keeps)⟩))
  try simp only [Act.put, List.setIfInBounds_toArray, List.set_cons_zero, List.set_cons_succ]
  refine wpAnyHL_one (i := 7) (o := ?_) (by kernel_rfl) (by kernel_rfl) ?_ ?_
  rotate_left 1
  focus (simp only [List.getElem?_toArray, List.getElem?_cons_succ, List.getElem?_cons_zero]; exact rfl)
  go_wp2_with (go_at_call 30; refine (HSZ.out _).mono ?_; rintro e W2 ⟨v2, rfl, hO2⟩; obtain ⟨a2, c2, rfl⟩ := hO2.any; have HO2 := Lib.hid hO2; clear hO2)
  try dsimp only [StepQ]
  refine ⟨?_, fun hHeld => ?_⟩
  focus (exact Lib.hid (⟨hHeld.out.1.trans HO2.out.keeps, HBC.out _ (hHeld.out.1.trans HO2.out.keeps)⟩))
  try simp only [Act.put, List.setIfInBounds_toArray, List.set_cons_zero, List.set_cons_succ]
  refine wpAnyHL_done (by kernel_rfl) ?_
  try simp only [List.drop_succ_cons, List.drop_zero]
  go_wp2_with (refine own_append rfl _ _ rfl (Own.keepsW (keeps_drew (Keeps.refl W0)) HO1.out) HO2.out.keeps rfl _ rfl SB.length SB (HO2.out.rd.src Tryz.underlying32 (int_oneCell _)) (by omega) ?_; intro v8 w8 hO8 hG8; have HO8 := Lib.hid hO8; clear hO8 hG8)
  have hO8 : Own W0 w8 v8 (HB ++ SB).length (HB ++ SB) := by rw [List.length_append, hbl]; exact HO8.out
  have hpl : (HB ++ SB).length ≤ 89 := by rw [List.length_append]; omega
  generalize hPS : HB ++ SB = PS at *
  have HV8 := Lib.hid hO8; have HPS := Lib.hid hPS
  clear hO8 hPS HO8 HO1 HO2 hHeld
  go_loopw [3, 4] (fun v c wr => ∃ i : Nat, i ≤ l.length ∧ c = .int .i64 i ∧ Hid (Own W0 wr v (PS ++ (l.take i).flatMap txB).length (PS ++ (l.take i).flatMap txB))) (fun _ c _ => (l.length - intOf c).toNat)
  case atStart => exact ⟨0, by omega, rfl, Lib.hid (HV8.out.cast (by simp) (by simp))⟩
  case round =>
    obtain ⟨i, hi, rfl, HV⟩ := hrel
    have b1 := HBC.out _ HV.out.keeps
    obtain ⟨va, vc, rfl⟩ := HV.out.any
    by_cases hlt : i < l.length
    · obtain ⟨g2, off, iv, ov, d, rfl, hg2, hdi, hrow, hrtx⟩ := (HT.out.keeps (HK.out.trans HV.out.keeps)).at hlt
      have hfd := HF.out d (List.mem_of_getElem? hdi)
      have HE2 := Lib.hid (fun W' (hk : Keeps wr W') => renc_any S T R d iv ov true hfd W' (hrtx.keeps hk))
      have hstep := take_flat txB l i d hdi
      have htb : txB d = textB (encB d true) := rfl
      have hle := enc_le d true hfd
      have hb2 := HFT.out i
      have htl := txB_le d hfd
      have HROW := Lib.hid hrow; have HSTEP := Lib.hid hstep; have HTB := Lib.hid htb
      obtain ⟨ia, ic, rfl, -⟩ := hrtx.ins.any
      obtain ⟨oa, oc, rfl, -⟩ := hrtx.outs.any
      clear hdi hrow hrtx hfd hstep htb
      have HTX := Lib.hid (fun W' (v : Value) (hr : Rd W' 1 v (encB d true).length ((encB d true).map (Value.int .u8))) => text_any v (encB d true) (by omega) W' hr)
      rw [← HTB.out] at HTX
      generalize encB d true = EB at *
      generalize txB d = TB at *
      generalize (l.take i).flatMap txB = QL at *
      have hqq : (PS ++ QL).length ≤ 12000000000400 := by rw [List.length_append]; omega
      generalize hPX : PS ++ QL = PX at *
      have HPX := Lib.hid hPX
      clear hPX HTB
      go_wp2_with (first | ((with_reducible refine gate_load 46 (.tmp 25) ?_); refine wpList_load_at rfl 46 (.tmp 25) rfl g2 (off + i * 4) rfl _ _ HROW.out Tryz.underlying46 rfl (sz_tx _ _ _ _) ?_) | (go_at_call 32; refine (HE2.out _ (Keeps.refl _)).mono ?_; rintro e W6 ⟨v6, rfl, hO6⟩; obtain ⟨a6, c6, rfl⟩ := hO6.any; have HO6 := Lib.hid hO6; clear hO6) | (go_at_call 31; refine (HTX.out _ _ HO6.out.rd).mono ?_; rintro e W7 ⟨v7, rfl, hO7⟩; obtain ⟨a7, c7, rfl⟩ := hO7.any; have HO7 := Lib.hid hO7; clear hO7) | (at_builtin; refine own_append rfl _ _ rfl HV.out (HO6.out.keeps.trans HO7.out.keeps) rfl _ rfl TB.length TB (HO7.out.rd.src Tryz.underlying32 (int_oneCell _)) (by omega) ?_; intro v9 w9 hO9 hG9; have HO9 := Lib.hid hO9; clear hO9 hG9))
      go_roundw
      case rel => exact ⟨i + 1, by omega, by go_num, Lib.hid (HO9.out.cast (by rw [HSTEP.out, ← HPX.out, List.append_assoc]) (by rw [HSTEP.out, ← HPX.out]; simp [Nat.add_assoc]))⟩
      case measure => simp [intOf]; omega
    · obtain rfl : i = l.length := by omega
      rw [List.take_length] at HV ⊢
      generalize hPX : PS ++ l.flatMap txB = PX at *
      have HPX := Lib.hid hPX
      clear hPX
      go_wp2
      go_ret
      exact ⟨_, rfl, by rw [HPS.out, HPX.out]; exact Own.keepsW HK.out HV.out⟩
end Go.Proofs.YtcodpdpeklammaaGreatDoor
