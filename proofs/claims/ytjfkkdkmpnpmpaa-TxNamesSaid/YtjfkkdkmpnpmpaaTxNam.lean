/- What TxNames needs of plain law: a transaction without its witnesses; and a store that takes them. -/
import Derived.Test.YtjfkkdkmpnpmpaaTxAwake
namespace Go.Proofs.Ytjfkkdkmpnpmpaa
set_option linter.unusedVariables false
set_option linter.unusedSimpArgs false
open Go Go.RowKit

def bareIn (x : InD) : InD := { x with wit := [] }
def bareD (d : TxD) : TxD := { d with ins := d.ins.map bareIn }
theorem bare_witnessed (d : TxD) : witnessedD (bareD d) = false := by
  unfold witnessedD bareD
  rw [List.any_map]
  refine any_false_upto _ _ (fun i x _ => ?_)
  rfl
theorem bare_ins (l : List InD) : insB (l.map bareIn) = insB l := by
  unfold insB
  rw [List.length_map, List.flatMap_map]
  rfl
theorem bare_enc (d : TxD) (wit : Bool) : encB (bareD d) wit = encB d false := by
  unfold encB
  rw [bare_witnessed]
  simp only [Bool.and_false, Bool.false_and]
  rw [show (bareD d).ins = d.ins.map bareIn from rfl, bare_ins]
  rfl
theorem bare_fits {d : TxD} (h : Fits d) : Fits (bareD d) := by
  unfold Fits at h ⊢
  rw [show (bareD d).ins = d.ins.map bareIn from rfl, bare_ins, List.flatMap_map]
  have : (d.ins.flatMap fun a => witB (bareIn a)).length ≤ (d.ins.flatMap witB).length := by
    induction d.ins with
    | nil => simp
    | cons a r ih =>
      simp only [List.flatMap_cons, List.length_append]
      have h1 : (witB (bareIn a)).length ≤ (witB a).length := by
        unfold witB bareIn
        simp only [List.length_append, List.flatMap_nil, List.length_nil, Nat.add_zero]
        have e : (sizeB (((0 : Nat)) : Int)).length = 1 := by unfold sizeB; simp
        have e2 : 1 ≤ (sizeB ((a.wit.length : Nat) : Int)).length := by
          unfold sizeB
          split
          · simp
          · split
            · simp
            · split <;> simp
        omega
      omega
  have e : (bareD d).outs = d.outs := rfl
  rw [e]
  omega
theorem FewSt.noWit {S T : Nat → Prop} {base : Nat} {w W : World} {p g off n cap : Nat} {ov : Value} {d : TxD} (h : FewSt S T base w W p (.slice (some ⟨g, off, none⟩) n cap) ov d) {i : Nat} {di : InD} {sv wv : Value} (hd : d.ins[i]? = some di) (hrow : Row W g (off + i * 36) (inCells di sv wv)) (hr : RIn S T W sv wv di) :
    FewSt S T base w (W.setCell ⟨g, off + i * 36 + 35, none⟩ (.slice none 0 0)) p (.slice (some ⟨g, off, none⟩) n cap) ov { d with ins := d.ins.set i (bareIn di) } :=
  h.put g _ _ h.at (h.own.putIn hd hrow 35 _ (bareIn di) sv (.slice none 0 0) (by omega) (inCells_set35 _ _ _ _ _ hr.ok.hashLen) ⟨⟨hr.ok.hashLen, hr.ok.hash, hr.ok.index, hr.ok.seq⟩, hr.script, rll_none S T W⟩ (.inr rfl)) rfl rfl
theorem run_eql_at {P : Program} {o : Oper} {a : Act} {w : World} (t t' : TypeId) (x y : Operand) (ho : o.op = .binOp .eql t x y t') (A B : Array Value) (hx : a.eval x = .agg A) (hy : a.eval y = .agg B) (r : Bool)
    (hE : ∀ W, (Op.equalIn 10000 t (.agg A) (.agg B)).run P W = .ok r W) (hm : P.eqGuardType P.depth t = false) : (execOp a.eval o).run P w = .ok (.value (.bool r)) w := by
  unfold execOp
  simp only [ho, hx, hy]
  simp only [Sem.run_bind, Sem.run_pure, run_eqGuard_agg _ _ _ _ _ _ _ hm, run_eql_struct, hE, Result.andThen_ok]
end Go.Proofs.Ytjfkkdkmpnpmpaa
