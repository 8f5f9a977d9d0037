/- tx.reader's tx: reading a whole transaction in steps, in plain Lean; what it holds on the way. -/
import Derived.Test.YtcodpdpeklammaaDoorGC2
import Derived.Test.YtcodpdpeklammaaDoorGC7
namespace Go.Proofs.YtcodpdpeklammaaDoor
set_option linter.unusedVariables false
set_option linter.unusedSimpArgs false
open Go Go.RowKit
variable {B : Nat}
def rdEnd (ver : Int) (second : Bool) (ins2 : List InD) (outs : List OutD) : Rdr TxD := rdBind (rdNum 4) (fun lock =>
      fun r => if (second && !witnessedD ⟨ver, ins2, outs, lock⟩) || decide (0 < r.length) then .error 3 else .ok (⟨ver, ins2, outs, lock⟩, r))
def rdRest3 (ver : Int) (second : Bool) (ins : List InD) (outs : List OutD) : Rdr TxD := rdBind (if second then rdWits ins ins.length else rdOk ins) (fun ins2 => rdEnd ver second ins2 outs)
def rdRest2 (ver : Int) (second : Bool) (ins : List InD) : Rdr TxD := rdBind rdCount (fun m => rdBind (rdMany rdOut m) (fun outs => rdRest3 ver second ins outs))
theorem rdRest_eq (ver : Int) (second : Bool) (n : Nat) : rdRest ver second n = rdBind (rdMany rdIn n) (fun ins => rdRest2 ver second ins) := rfl
theorem tx_e1 {l : List Int} {c : Int} (h : rdNum 4 l = .error c) : rdTx l = .error c := by unfold rdTx; exact rdBind_err h
theorem tx_e2 {l r : List Int} {x c : Int} (h : rdNum 4 l = .ok (x, r)) (h2 : rdCount r = .error c) : rdTx l = .error c := by unfold rdTx; rw [rdBind_ok h]; exact rdBind_err h2
theorem tx_plain {l r r2 : List Int} {x : Int} {n : Nat} (h : rdNum 4 l = .ok (x, r)) (h2 : rdCount r = .ok (n, r2)) (hn : n ≠ 0) : rdTx l = rdRest (toI32 x) false n r2 := by unfold rdTx; rw [rdBind_ok h, rdBind_ok h2, if_neg hn]
theorem tx_e3 {l r r2 : List Int} {x c : Int} (h : rdNum 4 l = .ok (x, r)) (h2 : rdCount r = .ok (0, r2)) (h3 : rdNum 1 r2 = .error c) : rdTx l = .error c := by unfold rdTx; rw [rdBind_ok h, rdBind_ok h2, if_pos rfl]; exact rdBind_err h3
theorem tx_e4 {l r r2 r3 : List Int} {x f : Int} (h : rdNum 4 l = .ok (x, r)) (h2 : rdCount r = .ok (0, r2)) (h3 : rdNum 1 r2 = .ok (f, r3)) (hf : f ≠ 1) : rdTx l = .error 3 := by unfold rdTx; rw [rdBind_ok h, rdBind_ok h2, if_pos rfl, rdBind_ok h3, if_pos hf]; rfl
theorem tx_e5 {l r r2 r3 : List Int} {x c : Int} (h : rdNum 4 l = .ok (x, r)) (h2 : rdCount r = .ok (0, r2)) (h3 : rdNum 1 r2 = .ok (1, r3)) (h4 : rdCount r3 = .error c) : rdTx l = .error c := by unfold rdTx; rw [rdBind_ok h, rdBind_ok h2, if_pos rfl, rdBind_ok h3, if_neg (by simp)]; exact rdBind_err h4
theorem tx_second {l r r2 r3 r4 : List Int} {x : Int} {n : Nat} (h : rdNum 4 l = .ok (x, r)) (h2 : rdCount r = .ok (0, r2)) (h3 : rdNum 1 r2 = .ok (1, r3)) (h4 : rdCount r3 = .ok (n, r4)) : rdTx l = rdRest (toI32 x) true n r4 := by unfold rdTx; rw [rdBind_ok h, rdBind_ok h2, if_pos rfl, rdBind_ok h3, if_neg (by simp), rdBind_ok h4]
theorem rest_e1 {v : Int} {s : Bool} {n : Nat} {l : List Int} {c : Int} (h : rdMany rdIn n l = .error c) : rdRest v s n l = .error c := by rw [rdRest_eq]; exact rdBind_err h
theorem rest_ok1 {v : Int} {s : Bool} {n : Nat} {l r : List Int} {ins : List InD} (h : rdMany rdIn n l = .ok (ins, r)) : rdRest v s n l = rdRest2 v s ins r := by rw [rdRest_eq]; exact rdBind_ok h
theorem rest_e2 {v : Int} {s : Bool} {ins : List InD} {l : List Int} {c : Int} (h : rdCount l = .error c) : rdRest2 v s ins l = .error c := rdBind_err h
theorem rest_e3 {v : Int} {s : Bool} {ins : List InD} {l r : List Int} {m : Nat} {c : Int} (h : rdCount l = .ok (m, r)) (h2 : rdMany rdOut m r = .error c) : rdRest2 v s ins l = .error c := by unfold rdRest2; rw [rdBind_ok h]; exact rdBind_err h2
theorem rest_ok2 {v : Int} {s : Bool} {ins : List InD} {l r r2 : List Int} {m : Nat} {outs : List OutD} (h : rdCount l = .ok (m, r)) (h2 : rdMany rdOut m r = .ok (outs, r2)) : rdRest2 v s ins l = rdRest3 v s ins outs r2 := by unfold rdRest2; rw [rdBind_ok h]; exact rdBind_ok h2
theorem rest_plain {v : Int} {ins : List InD} {outs : List OutD} {l : List Int} : rdRest3 v false ins outs l = rdEnd v false ins outs l := rfl
theorem rest_e4 {v : Int} {ins : List InD} {outs : List OutD} {l : List Int} {c : Int} (h : rdWits ins ins.length l = .error c) : rdRest3 v true ins outs l = .error c := by unfold rdRest3; rw [if_pos rfl]; exact rdBind_err h
theorem rest_ok4 {v : Int} {ins ins2 : List InD} {outs : List OutD} {l r : List Int} (h : rdWits ins ins.length l = .ok (ins2, r)) : rdRest3 v true ins outs l = rdEnd v true ins2 outs r := by unfold rdRest3; rw [if_pos rfl]; exact rdBind_ok h
theorem end_e1 {v : Int} {s : Bool} {ins : List InD} {outs : List OutD} {l : List Int} {c : Int} (h : rdNum 4 l = .error c) : rdEnd v s ins outs l = .error c := rdBind_err h
theorem end_e2 {v : Int} {s : Bool} {ins : List InD} {outs : List OutD} {l r : List Int} {x : Int} (h : rdNum 4 l = .ok (x, r)) (hw : s = true ∧ witnessedD ⟨v, ins, outs, x⟩ = false) : rdEnd v s ins outs l = .error 3 := by unfold rdEnd; rw [rdBind_ok h, if_pos (by simp [hw.1, hw.2])]
theorem end_e3 {v : Int} {s : Bool} {ins : List InD} {outs : List OutD} {l r : List Int} {x : Int} (h : rdNum 4 l = .ok (x, r)) (hr : 0 < r.length) : rdEnd v s ins outs l = .error 3 := by unfold rdEnd; rw [rdBind_ok h, if_pos (by simp [hr])]
theorem end_ok {v : Int} {s : Bool} {ins : List InD} {outs : List OutD} {l r : List Int} {x : Int} (h : rdNum 4 l = .ok (x, r)) (hw : s = true → witnessedD ⟨v, ins, outs, x⟩ = true) (hr : ¬ 0 < r.length) : rdEnd v s ins outs l = .ok (⟨v, ins, outs, x⟩, r) := by
  obtain rfl : r = [] := List.eq_nil_of_length_eq_zero (by omega)
  unfold rdEnd
  rw [rdBind_ok h, if_neg]
  cases s
  · simp
  · simp [hw rfl]
theorem toI32_range {x : Int} (h0 : 0 ≤ x) (h1 : x < 4294967296) : I32 (toI32 x) := by unfold toI32 I32; split <;> omega

/-- fresh blocks up to N, but the row of v -/
def FrN (base N : Nat) (v : Value) (k : Nat) : Prop := base ≤ k ∧ k < N ∧ v.ownBlock ≠ some k
/-- inputs that were read: rows in fresh memory -/
def GotI (base N : Nat) (W : World) (v : Value) (l : List InD) : Prop := ∃ cs ps, RIns (FrN base N v) (FrN base N v) (fun k => v.ownBlock = some k) W v l cs ps ∧ (∀ k, v.ownBlock = some k → base ≤ k ∧ k < N) ∧ N ≤ W.heap.size
def GotO (base N : Nat) (W : World) (v : Value) (l : List OutD) : Prop := ROutsX (fun k => base ≤ k ∧ k < N) (fun k => base ≤ k ∧ k < N) W v l ∧ N ≤ W.heap.size
theorem GotI.any {base N : Nat} {W : World} {v : Value} {l : List InD} (h : GotI base N W v l) : ∃ a cap, v = .slice a l.length cap ∧ l.length ≤ cap ∧ cap ≤ maxLen ∧ (a = none → l.length = 0 ∧ cap = 0) := by
  obtain ⟨cs, ps, h, _⟩ := h
  exact RInsX.any ⟨cs, ps, h⟩
theorem GotO.any {base N : Nat} {W : World} {v : Value} {l : List OutD} (h : GotO base N W v l) : ∃ a cap, v = .slice a l.length cap ∧ l.length ≤ cap ∧ cap ≤ maxLen ∧ (a = none → l.length = 0 ∧ cap = 0) := h.1.any
theorem OwnI.got {S T : Nat → Prop} {base : Nat} {W : World} {v : Value} {l : List InD} {cs : List Value} {ps : List (Value × Value)} (h : OwnI S T base W v l cs ps) (hl : l.length * 96 ≤ 140737488355328) : GotI base W.heap.size W v l :=
  ⟨cs, ps, ⟨h.buf.rd, h.plen, fun i p d hp hd => ⟨(h.each i p d hp hd).1.mono (fun g hg => h.fresh g (.inl hg)) (fun g hg => h.fresh g (.inr hg)), (h.each i p d hp hd).2⟩, hl, fun g e => e⟩, fun k e => ⟨h.new k e, h.buf.lt e⟩, Nat.le_refl _⟩
theorem OwnO.got {S : Nat → Prop} {base : Nat} {W : World} {v : Value} {l : List OutD} {cs : List Value} {ps : List Value} (h : OwnO S base W v l cs ps) (hl : l.length * 32 ≤ 140737488355328) : GotO base W.heap.size W v l :=
  ⟨(h.outs hl).mono (fun g hg => ⟨(h.fresh g hg).1, (h.fresh g hg).2.1⟩) (fun g e => ⟨h.new g e, h.buf.lt e⟩), Nat.le_refl _⟩
theorem GotI.chg {X : Nat → Prop} {base N : Nat} {W W' : World} {v : Value} {l : List InD} (h : GotI base N W v l) (hc : Chg X W W') (hx : ∀ k, X k → k < base ∨ N ≤ k) : GotI base N W' v l := by
  obtain ⟨cs, ps, h, hv, hN⟩ := h
  have hS : ∀ g, FrN base N v g → ¬ X g := fun g hg hxg => by have h1 := hx g hxg; have h2 := hg.1; have h3 := hg.2.1; omega
  refine ⟨cs, ps, ⟨h.rd.chg hc (fun g e hxg => by have h1 := hx g hxg; have h2 := hv g e; omega), h.plen, fun i p d hp hd => ⟨(h.each i p d hp hd).1.chg hc hS hS, (h.each i p d hp hd).2⟩, h.small, h.foot⟩, hv, Nat.le_trans hN hc.size⟩
theorem GotO.chg {X : Nat → Prop} {base N : Nat} {W W' : World} {v : Value} {l : List OutD} (h : GotO base N W v l) (hc : Chg X W W') (hx : ∀ k, X k → k < base ∨ N ≤ k) : GotO base N W' v l :=
  ⟨h.1.chg hc (fun g hg hxg => by have h1 := hx g hxg; have h2 := hg.1; have h3 := hg.2; omega) (fun g hg hxg => by have h1 := hx g hxg; have h2 := hg.1; have h3 := hg.2; omega), Nat.le_trans h.2 hc.size⟩
theorem GotI.up {base N N' : Nat} {W : World} {v : Value} {l : List InD} (h : GotI base N W v l) (hN : N ≤ N') (hN' : N' ≤ W.heap.size) : GotI base N' W v l := by
  obtain ⟨cs, ps, h, hv, _⟩ := h
  have hS : ∀ g, FrN base N v g → FrN base N' v g := fun g hg => ⟨hg.1, Nat.lt_of_lt_of_le hg.2.1 hN, hg.2.2⟩
  exact ⟨cs, ps, ⟨h.rd, h.plen, fun i p d hp hd => ⟨(h.each i p d hp hd).1.mono hS hS, (h.each i p d hp hd).2⟩, h.small, h.foot⟩, fun k e => ⟨(hv k e).1, Nat.lt_of_lt_of_le (hv k e).2 hN⟩, hN'⟩
theorem GotI.low {base b N : Nat} {W : World} {v : Value} {l : List InD} (h : GotI base N W v l) (hb : b ≤ base) : GotI b N W v l := by
  obtain ⟨cs, ps, h, hv, hN⟩ := h
  have hS : ∀ g, FrN base N v g → FrN b N v g := fun g hg => ⟨Nat.le_trans hb hg.1, hg.2⟩
  exact ⟨cs, ps, ⟨h.rd, h.plen, fun i p d hp hd => ⟨(h.each i p d hp hd).1.mono hS hS, (h.each i p d hp hd).2⟩, h.small, h.foot⟩, fun k e => ⟨Nat.le_trans hb (hv k e).1, (hv k e).2⟩, hN⟩
theorem GotO.low {base b N : Nat} {W : World} {v : Value} {l : List OutD} (h : GotO base N W v l) (hb : b ≤ base) : GotO b N W v l :=
  ⟨h.1.mono (fun g hg => ⟨Nat.le_trans hb hg.1, hg.2⟩) (fun g hg => ⟨Nat.le_trans hb hg.1, hg.2⟩), h.2⟩
theorem GotI.ins {base N : Nat} {W : World} {v : Value} {l : List InD} (h : GotI base N W v l) : RInsX (fun k => base ≤ k ∧ k < N) (fun k => base ≤ k ∧ k < N) (fun k => base ≤ k ∧ k < N) W v l := by
  obtain ⟨cs, ps, h, hv, _⟩ := h
  exact (RInsX.mono ⟨cs, ps, h⟩ (fun g hg => ⟨hg.1, hg.2.1⟩) (fun g hg => ⟨hg.1, hg.2.1⟩) (fun g hg => hv g hg))
/-- the element's row -/
theorem GotI.at {base N : Nat} {W : World} {a : Option Addr} {n cap : Nat} {l : List InD} (h : GotI base N W (.slice a n cap) l) (i : Nat) (hi : i < l.length) :
    ∃ g off sv wv d, a = some ⟨g, off, none⟩ ∧ base ≤ g ∧ g < N ∧ l[i]? = some d ∧ Row W g (off + i * 36) (inCells d sv wv) ∧ d.hash.length = 32 := by
  obtain ⟨cs, ps, h, hv, hN⟩ := h
  obtain ⟨g, off, sv, wv, d, rfl, hg, hd, hr, hin⟩ := RInsX.at ⟨cs, ps, h⟩ i hi
  have := hv g rfl
  exact ⟨g, off, sv, wv, d, rfl, this.1, this.2, hd, hr, hin.ok.hashLen⟩
/-- the items of an input written -/
theorem GotI.put {base N : Nat} {W : World} {g off n cap : Nat} {l : List InD} (h : GotI base N W (.slice (some ⟨g, off, none⟩) n cap) l) (i : Nat) (di : InD) (hd : l[i]? = some di) (wv : Value) (ls : List (List Int)) (hw : RLL (FrN base N (.slice (some ⟨g, off, none⟩) n cap)) (FrN base N (.slice (some ⟨g, off, none⟩) n cap)) W wv ls) :
    GotI base N (W.setCell ⟨g, off + i * 36 + 35, none⟩ wv) (.slice (some ⟨g, off, none⟩) n cap) (l.set i { di with wit := ls }) := by
  obtain ⟨cs, ps, h, hv, hN⟩ := h
  have hil : i < l.length := (List.getElem?_eq_some_iff.1 hd).1
  have hp : ps[i]? = some (ps[i]'(by rw [h.plen]; exact hil)) := List.getElem?_eq_getElem (by rw [h.plen]; exact hil)
  obtain ⟨e1, e2⟩ := h.each i _ di hp hd
  have hS : ∀ b, FrN base N (.slice (some ⟨g, off, none⟩) n cap) b → b ≠ g := fun b hb e => hb.2.2 (by rw [e]; rfl)
  refine ⟨_, _, h.put i di hd _ hp 35 (by omega) wv { di with wit := ls } ((ps[i]'(by rw [h.plen]; exact hil)).1, wv) (inCells_set35 _ _ _ _ _ e1.ok.hashLen) ⟨⟨e1.ok.hashLen, e1.ok.hash, e1.ok.index, e1.ok.seq⟩, e1.script, hw⟩ hS hS, hv, by simpa using hN⟩
theorem set_done {xs l : List InD} {i : Nat} {d : InD} (hx : xs.length = i) (hi : i < l.length) : (xs ++ l.drop i).set i d = (xs ++ [d]) ++ l.drop (i + 1) := by
  subst hx
  rw [List.set_append_right _ _ (Nat.le_refl _), Nat.sub_self, List.drop_eq_getElem_cons hi]
  simp only [List.set_cons_zero, List.append_assoc, List.cons_append, List.nil_append]
theorem wp_join2 {P : Program} {c rest : Code} {Q Q0 : Exit → Act → World → Prop} {K1 : Act → World → Prop} {a : Act} {w : World} (ts : List Nat) (J : List Value → World → Prop) (hK1 : ∀ a w, Code.wp P rest Q a w → K1 a w)
    (h2 : (∀ us w', us.length = ts.length → J us w' → K1 (putAll a ts us) w') → Code.wp P c Q0 a w) (h1 : ∀ us w', us.length = ts.length → J us w' → Code.wp P rest Q (putAll a ts us) w') : Code.wp P c Q0 a w :=
  h2 (fun us w' hl hj => hK1 _ _ (h1 us w' hl hj))
end Go.Proofs.YtcodpdpeklammaaDoor
