/- The reference's Decode: the links between what is read and the reading in plain Lean; what it holds. | Gates ahead of a walk's arms: each fits one kind of operation by its text alone, so that a law which does not fit fails at once. No condition. -/
import Derived.Test.YtcodpdpeklammaaGB6
import Derived.Test.YtcodpdpeklammaaGD8
import Derived.Test.YtcodpdpeklammaaGA0
namespace Go.Proofs.Ytcodpdpeklammaa
set_option linter.unusedVariables false
set_option linter.unusedSimpArgs false
open Go Go.RowKit
theorem RfR.bind {α β : Type} {p : Rdr α} {f : α → Rdr β} {e e1 e2 : Int} {l l1 l2 : List Int} {x : α} {y : β} (h : RfR p e l x e1 l1) (h2 : RfR (f x) e1 l1 y e2 l2) : RfR (rdBind p f) e l y e2 l2 := by
  rcases h with ⟨a, b⟩ | ⟨a, b, c⟩ | ⟨a, b, c⟩
  · rcases h2 with ⟨d, g⟩ | ⟨d, g, _⟩ | ⟨d, g, _⟩
    · exact .inl ⟨a, by rw [g, b]⟩
    · exact absurd (b.symm.trans d) a
    · exact absurd (b.symm.trans d) a
  · subst b
    rcases h2 with ⟨d, g⟩ | ⟨d, g, k⟩ | ⟨d, g, k⟩
    · exact absurd rfl d
    · exact .inr (.inl ⟨a, g, by rw [rdBind_ok c]; exact k⟩)
    · exact .inr (.inr ⟨a, g, by rw [rdBind_ok c]; exact k⟩)
  · rcases h2 with ⟨d, g⟩ | ⟨d, g, k⟩ | ⟨d, g, k⟩
    · exact .inr (.inr ⟨a, by rw [g]; exact b, by rw [g]; exact rdBind_err c⟩)
    · exact absurd d b
    · exact absurd d b
theorem RfR.ret {α : Type} {e : Int} {l : List Int} {x : α} : RfR (rdOk x) e l x e l := by
  by_cases h : e = 0
  · exact .inr (.inl ⟨h, h, rfl⟩)
  · exact .inl ⟨h, rfl⟩
theorem in_read {e e1 e2 e3 e4 : Int} {l l1 l2 l3 l4 h s : List Int} {x q : Int} (a : RfR (rdTake 32) e l h e1 l1) (b : RfR (rdNum 4) e1 l1 x e2 l2) (c : RfR (rdList 100000) e2 l2 s e3 l3) (d : RfR (rdNum 4) e3 l3 q e4 l4) : RfR rdIn e l ⟨h, x, s, q, []⟩ e4 l4 := by
  unfold rdIn; exact a.bind (b.bind (c.bind (d.bind RfR.ret)))
theorem out_read {e e1 e2 : Int} {l l1 l2 s : List Int} {x : Int} (a : RfR (rdNum 8) e l x e1 l1) (b : RfR (rdList 100000) e1 l1 s e2 l2) : RfR rdOut e l ⟨toI64 x, s⟩ e2 l2 := by
  unfold rdOut; exact a.bind (b.bind RfR.ret)
theorem cnt_read {l l' : List Int} {x : Int} (h : rdCountI l = .ok (x, l')) (h0 : 0 ≤ x) : rdCount l = .ok (x.toNat, l') ∧ x ≤ 25000 := by
  obtain ⟨y, r1, h1, h2⟩ := rdBind_inv h
  split at h2
  · cases h2
  · injection h2 with h2
    obtain ⟨rfl, rfl⟩ := Prod.mk.inj h2
    exact ⟨by unfold rdCount; rw [rdBind_ok h1, if_neg (by assumption)]; rfl, by omega⟩
theorem cnt_err {l : List Int} {c : Int} (h : rdCountI l = .error c) : rdCount l = .error c := by
  unfold rdCountI at h
  cases hs : rdSize l with
  | error d => rw [rdBind_err hs] at h; cases h; exact count_err hs
  | ok p =>
    obtain ⟨y, r⟩ := p
    rw [rdBind_ok hs] at h
    split at h
    · cases h; exact count_big hs (by assumption)
    · cases h
theorem wrap_count {x : Int} (h0 : 0 ≤ x) (h1 : x ≤ 25000) : IntKind.i64.wrap x = (x.toNat : Int) := by rw [IntKind.wrap_i64]; omega
/-! links: where no error has been met, the rest of the reading; else the answer -/
def LinkA (l : List Int) (second : Bool) (ver : Int) (n : Int) (r : List Int) (e : Int) : Prop := (e = 0 ∧ ∃ m : Nat, n = m ∧ m ≤ 25000 ∧ rdTx l = rdRest ver second m r) ∨ (e ≠ 0 ∧ rdTx l = .error e)
def LinkB (l : List Int) (second : Bool) (ver : Int) (n : Int) (i : Nat) (xs : List InD) (r : List Int) (e : Int) : Prop := (e = 0 ∧ ∃ (m : Nat) (l1 : List Int), n = m ∧ m ≤ 25000 ∧ i ≤ m ∧ rdTx l = rdRest ver second m l1 ∧ rdMany rdIn i l1 = .ok (xs, r)) ∨ (e ≠ 0 ∧ rdTx l = .error e)
def LinkC (l : List Int) (second : Bool) (ver : Int) (ins : List InD) (r : List Int) (e : Int) : Prop := (e = 0 ∧ rdTx l = rdRest2 ver second ins r) ∨ (e ≠ 0 ∧ rdTx l = .error e)
def LinkD (l : List Int) (second : Bool) (ver : Int) (ins : List InD) (n : Int) (i : Nat) (outs : List OutD) (r : List Int) (e : Int) : Prop := (e = 0 ∧ ∃ (m : Nat) (l1 l2 : List Int), n = m ∧ m ≤ 25000 ∧ i ≤ m ∧ rdTx l = rdRest2 ver second ins l1 ∧ rdCount l1 = .ok (m, l2) ∧ rdMany rdOut i l2 = .ok (outs, r)) ∨ (e ≠ 0 ∧ rdTx l = .error e)
def LinkF (l : List Int) (second : Bool) (ver : Int) (ins : List InD) (outs : List OutD) (r : List Int) (e : Int) : Prop := (e = 0 ∧ rdTx l = rdRest3 ver second ins outs r) ∨ (e ≠ 0 ∧ rdTx l = .error e)
def LinkG (l : List Int) (ver : Int) (ins : List InD) (outs : List OutD) (i : Nat) (done : List InD) (r : List Int) (e : Int) : Prop := (e = 0 ∧ ∃ l3, rdTx l = rdRest3 ver true ins outs l3 ∧ rdWits ins i l3 = .ok (done, r)) ∨ (e ≠ 0 ∧ rdTx l = .error e)
def LinkW (l : List Int) (ver : Int) (ins : List InD) (outs : List OutD) (i : Nat) (done : List InD) (n : Int) (j : Nat) (ws : List (List Int)) (r : List Int) (e : Int) : Prop := (e = 0 ∧ ∃ (l3 l4 l5 : List Int) (m : Nat), n = m ∧ m ≤ 25000 ∧ j ≤ m ∧ rdTx l = rdRest3 ver true ins outs l3 ∧ rdWits ins i l3 = .ok (done, l4) ∧ rdCount l4 = .ok (m, l5) ∧ rdMany (rdList 100000) j l5 = .ok (ws, r)) ∨ (e ≠ 0 ∧ rdTx l = .error e)
def LinkH (l : List Int) (second : Bool) (ver : Int) (ins2 : List InD) (outs : List OutD) (r : List Int) (e : Int) : Prop := (e = 0 ∧ rdTx l = rdEnd ver second ins2 outs r) ∨ (e ≠ 0 ∧ rdTx l = .error e)
theorem LinkA.start {l : List Int} {second : Bool} {ver n : Int} {r : List Int} {e : Int} (h : LinkA l second ver n r e) : LinkB l second ver n 0 [] r e := by
  rcases h with ⟨he, m, hn, hm, ht⟩ | h
  · exact .inl ⟨he, m, r, hn, hm, Nat.zero_le _, ht, rfl⟩
  · exact .inr h
theorem LinkB.step {l : List Int} {second : Bool} {ver n : Int} {i : Nat} {xs : List InD} {r r2 : List Int} {d : InD} {e2 : Int} (h : LinkB l second ver n i xs r 0) (hi : (i : Int) < n) (hr : RfR rdIn 0 r d e2 r2) : LinkB l second ver n (i + 1) (xs ++ [d]) r2 e2 := by
  rcases h with ⟨_, m, l1, hn, hm, him, ht, hx⟩ | ⟨h, _⟩
  · rcases hr with ⟨a, _⟩ | ⟨_, b, c⟩ | ⟨_, b, c⟩
    · exact absurd rfl a
    · exact .inl ⟨b, m, l1, hn, hm, by omega, ht, rdMany_next hx c⟩
    · exact .inr ⟨b, by rw [ht]; exact rest_e1 (rdMany_stop (rdMany_fail hx c) m (by omega))⟩
  · exact absurd rfl h
theorem LinkB.done {l : List Int} {second : Bool} {ver n : Int} {i : Nat} {xs : List InD} {r : List Int} {e : Int} (h : LinkB l second ver n i xs r e) (hi : e = 0 → ¬ (i : Int) < n) : LinkC l second ver xs r e := by
  rcases h with ⟨he, m, l1, hn, hm, him, ht, hx⟩ | h
  · have : i = m := by have := hi he; omega
    subst this
    exact .inl ⟨he, by rw [ht]; exact rest_ok1 hx⟩
  · exact .inr h
theorem LinkC.count {l : List Int} {second : Bool} {ver : Int} {ins : List InD} {r r2 : List Int} {e e2 x : Int} (h : LinkC l second ver ins r e) (hr : RfR rdCountI e r x e2 r2) (h0 : 0 ≤ x) : LinkD l second ver ins (IntKind.i64.wrap x) 0 [] r2 e2 := by
  rcases h with ⟨he, ht⟩ | ⟨he, ht⟩
  · rcases hr with ⟨a, _⟩ | ⟨_, b, c⟩ | ⟨_, b, c⟩
    · exact absurd he a
    · obtain ⟨c1, c2⟩ := cnt_read c h0
      exact .inl ⟨b, x.toNat, r, r2, wrap_count h0 c2, by omega, Nat.zero_le _, ht, c1, rfl⟩
    · exact .inr ⟨b, by rw [ht]; exact rest_e2 (cnt_err c)⟩
  · rcases hr with ⟨_, a⟩ | ⟨a, _⟩ | ⟨a, _⟩
    · exact .inr ⟨by rw [a]; exact he, by rw [a]; exact ht⟩
    · exact absurd a he
    · exact absurd a he
theorem LinkD.step {l : List Int} {second : Bool} {ver : Int} {ins : List InD} {n : Int} {i : Nat} {outs : List OutD} {r r2 : List Int} {d : OutD} {e2 : Int} (h : LinkD l second ver ins n i outs r 0) (hi : (i : Int) < n) (hr : RfR rdOut 0 r d e2 r2) : LinkD l second ver ins n (i + 1) (outs ++ [d]) r2 e2 := by
  rcases h with ⟨_, m, l1, l2, hn, hm, him, ht, hc, hx⟩ | ⟨h, _⟩
  · rcases hr with ⟨a, _⟩ | ⟨_, b, c⟩ | ⟨_, b, c⟩
    · exact absurd rfl a
    · exact .inl ⟨b, m, l1, l2, hn, hm, by omega, ht, hc, rdMany_next hx c⟩
    · exact .inr ⟨b, by rw [ht]; exact rest_e3 hc (rdMany_stop (rdMany_fail hx c) m (by omega))⟩
  · exact absurd rfl h
theorem LinkD.done {l : List Int} {second : Bool} {ver : Int} {ins : List InD} {n : Int} {i : Nat} {outs : List OutD} {r : List Int} {e : Int} (h : LinkD l second ver ins n i outs r e) (hi : e = 0 → ¬ (i : Int) < n) : LinkF l second ver ins outs r e := by
  rcases h with ⟨he, m, l1, l2, hn, hm, him, ht, hc, hx⟩ | h
  · have : i = m := by have := hi he; omega
    subst this
    exact .inl ⟨he, by rw [ht]; exact rest_ok2 hc hx⟩
  · exact .inr h
theorem LinkF.plain {l : List Int} {ver : Int} {ins : List InD} {outs : List OutD} {r : List Int} {e : Int} (h : LinkF l false ver ins outs r e) : LinkH l false ver ins outs r e := by
  rcases h with ⟨he, ht⟩ | h
  · exact .inl ⟨he, ht.trans rest_plain⟩
  · exact .inr h
theorem LinkF.start {l : List Int} {ver : Int} {ins : List InD} {outs : List OutD} {r : List Int} {e : Int} (h : LinkF l true ver ins outs r e) : LinkG l ver ins outs 0 [] r e := by
  rcases h with ⟨he, ht⟩ | h
  · exact .inl ⟨he, r, ht, rfl⟩
  · exact .inr h
theorem LinkG.count {l : List Int} {ver : Int} {ins : List InD} {outs : List OutD} {i : Nat} {done : List InD} {r r2 : List Int} {e e2 x : Int} (h : LinkG l ver ins outs i done r e) (hi : i < ins.length) (hr : RfR rdCountI e r x e2 r2) (h0 : 0 ≤ x) : LinkW l ver ins outs i done (IntKind.i64.wrap x) 0 [] r2 e2 := by
  rcases h with ⟨he, l3, ht, hw⟩ | ⟨he, ht⟩
  · rcases hr with ⟨a, _⟩ | ⟨_, b, c⟩ | ⟨_, b, c⟩
    · exact absurd he a
    · obtain ⟨c1, c2⟩ := cnt_read c h0
      exact .inl ⟨b, l3, r, r2, x.toNat, wrap_count h0 c2, by omega, Nat.zero_le _, ht, hw, c1, rfl⟩
    · exact .inr ⟨b, by rw [ht]; exact rest_e4 (rdWits_stop (rdWits_fail1 hw (cnt_err c)) _ (by omega))⟩
  · rcases hr with ⟨_, a⟩ | ⟨a, _⟩ | ⟨a, _⟩
    · exact .inr ⟨by rw [a]; exact he, by rw [a]; exact ht⟩
    · exact absurd a he
    · exact absurd a he
theorem LinkW.step {l : List Int} {ver : Int} {ins : List InD} {outs : List OutD} {i : Nat} {done : List InD} {n : Int} {j : Nat} {ws : List (List Int)} {r r2 x : List Int} {e2 : Int} (h : LinkW l ver ins outs i done n j ws r 0) (hi : i < ins.length) (hj : (j : Int) < n) (hr : RfR (rdList 100000) 0 r x e2 r2) : LinkW l ver ins outs i done n (j + 1) (ws ++ [x]) r2 e2 := by
  rcases h with ⟨_, l3, l4, l5, m, hn, hm, hjm, ht, hw, hc, hx⟩ | ⟨h, _⟩
  · rcases hr with ⟨a, _⟩ | ⟨_, b, c⟩ | ⟨_, b, c⟩
    · exact absurd rfl a
    · exact .inl ⟨b, l3, l4, l5, m, hn, hm, by omega, ht, hw, hc, rdMany_next hx c⟩
    · exact .inr ⟨b, by rw [ht]; exact rest_e4 (rdWits_stop (rdWits_fail2 hw hc (rdMany_stop (rdMany_fail hx c) m (by omega))) _ (by omega))⟩
  · exact absurd rfl h
theorem LinkW.done {l : List Int} {ver : Int} {ins : List InD} {outs : List OutD} {i : Nat} {done : List InD} {n : Int} {j : Nat} {ws : List (List Int)} {r : List Int} {e : Int} {d : InD} (h : LinkW l ver ins outs i done n j ws r e) (hd : ins[i]? = some d) (hj : e = 0 → ¬ (j : Int) < n) : LinkG l ver ins outs (i + 1) (done ++ [{ d with wit := ws }]) r e := by
  rcases h with ⟨he, l3, l4, l5, m, hn, hm, hjm, ht, hw, hc, hx⟩ | h
  · have : j = m := by have := hj he; omega
    subst this
    exact .inl ⟨he, l3, ht, rdWits_next hw hd hc hx⟩
  · exact .inr h
theorem LinkG.done {l : List Int} {ver : Int} {ins : List InD} {outs : List OutD} {done : List InD} {r : List Int} {e : Int} (h : LinkG l ver ins outs ins.length done r e) : LinkH l true ver done outs r e := by
  rcases h with ⟨he, l3, ht, hw⟩ | h
  · exact .inl ⟨he, ht.trans (rest_ok4 hw)⟩
  · exact .inr h
theorem LinkH.read {l : List Int} {second : Bool} {ver : Int} {ins2 : List InD} {outs : List OutD} {r r2 : List Int} {e e2 x : Int} (h : LinkH l second ver ins2 outs r e) (hr : RfR (rdNum 4) e r x e2 r2) :
    (e2 = 0 ∧ rdNum 4 r = .ok (x, r2) ∧ rdTx l = rdEnd ver second ins2 outs r) ∨ (e2 ≠ 0 ∧ rdTx l = .error e2) := by
  rcases h with ⟨he, ht⟩ | ⟨he, ht⟩
  · rcases hr with ⟨a, _⟩ | ⟨_, b, c⟩ | ⟨_, b, c⟩
    · exact absurd he a
    · exact .inl ⟨b, c, ht⟩
    · exact .inr ⟨b, by rw [ht]; exact end_e1 c⟩
  · rcases hr with ⟨_, a⟩ | ⟨a, _⟩ | ⟨a, _⟩
    · exact .inr ⟨by rw [a]; exact he, by rw [a]; exact ht⟩
    · exact absurd a he
    · exact absurd a he
end Go.Proofs.Ytcodpdpeklammaa
namespace Go.Proofs.Ytcodpdpeklammaa
set_option linter.unusedVariables false
set_option linter.unusedSimpArgs false
open Go Go.RowKit
section
variable {P : Program} {ops : Array Oper} {rest : List Oper} {a : Act} {w : World} {Q : Exit → Act → World → Prop} {d : Option Tmp} {y : TypeId} {p : String} {af : Array Edge} {gd : Option (Nat × Bool)}
theorem gate_load (t : TypeId) (x : Operand) (h : wpList P ops Q (⟨d, .load t x, y, p, af, gd⟩ :: rest) a w) : wpList P ops Q (⟨d, .load t x, y, p, af, gd⟩ :: rest) a w := h
theorem gate_store (t : TypeId) (x z : Operand) (h : wpList P ops Q (⟨d, .store t x z, y, p, af, gd⟩ :: rest) a w) : wpList P ops Q (⟨d, .store t x z, y, p, af, gd⟩ :: rest) a w := h
theorem gate_bin (b : BinOp) (t t' : TypeId) (x z : Operand) (h : wpList P ops Q (⟨d, .binOp b t x z t', y, p, af, gd⟩ :: rest) a w) : wpList P ops Q (⟨d, .binOp b t x z t', y, p, af, gd⟩ :: rest) a w := h
theorem gate_build (t : TypeId) (xs : Array (Nat × Operand)) (h : wpList P ops Q (⟨d, .build t xs, y, p, af, gd⟩ :: rest) a w) : wpList P ops Q (⟨d, .build t xs, y, p, af, gd⟩ :: rest) a w := h
end
end Go.Proofs.Ytcodpdpeklammaa
