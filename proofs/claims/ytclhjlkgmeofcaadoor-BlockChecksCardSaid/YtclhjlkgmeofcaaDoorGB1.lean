/- A transaction's bytes, in plain Lean. No condition. -/
import Derived.Test.YtclhjlkgmeofcaaDoorGA3
import Derived.Test.YtclhjlkgmeofcaaDoorGA4
namespace Go.Proofs.YtclhjlkgmeofcaaDoor
set_option linter.unusedVariables false
set_option linter.unusedSimpArgs false
open Go Go.RowKit

def witnessedD (d : TxD) : Bool := d.ins.any (fun i => decide (0 < i.wit.length))
def inB (d : InD) : List Int := d.hash ++ leB d.index 4 ++ textB d.script ++ leB d.seq 4
def insB (l : List InD) : List Int := sizeB (l.length : Int) ++ l.flatMap inB
def outB (d : OutD) : List Int := leB (d.value % 18446744073709551616) 8 ++ textB d.script
def outsB (l : List OutD) : List Int := sizeB (l.length : Int) ++ l.flatMap outB
def witB (d : InD) : List Int := sizeB (d.wit.length : Int) ++ d.wit.flatMap textB
def encB (d : TxD) (wit : Bool) : List Int := leB (d.ver % 4294967296) 4 ++ (if wit && witnessedD d then [0, 1] else []) ++ insB d.ins ++ outsB d.outs ++ (if wit && witnessedD d then d.ins.flatMap witB else []) ++ leB d.lock 4
/-- all its parts together are not too long -/
def Fits (d : TxD) : Prop := (insB d.ins).length + (outsB d.outs).length + (d.ins.flatMap witB).length ≤ 1000000000000
theorem take_flat {α : Type} (f : α → List Int) (l : List α) (i : Nat) (x : α) (h : l[i]? = some x) : (l.take (i + 1)).flatMap f = (l.take i).flatMap f ++ f x := by
  rw [List.take_add_one, h]; simp
theorem flat_take_le {α : Type} (f : α → List Int) (l : List α) (i : Nat) : ((l.take i).flatMap f).length ≤ (l.flatMap f).length := by
  conv => rhs; rw [← List.take_append_drop i l]
  rw [List.flatMap_append, List.length_append]
  omega
theorem flat_le {α : Type} (f : α → List Int) (c : Nat) : ∀ (l : List α), (∀ x ∈ l, (f x).length ≤ c) → (l.flatMap f).length ≤ l.length * c
  | [], _ => by simp
  | x :: l, h => by
    rw [List.flatMap_cons, List.length_append, List.length_cons, Nat.add_mul, Nat.one_mul]
    have h1 := h x (by simp)
    have h2 := flat_le f c l (fun y hy => h y (by simp [hy]))
    omega
theorem inB_eq (d : InD) (l : List Int) : l ++ d.hash ++ leB d.index 4 ++ textB d.script ++ leB d.seq 4 = l ++ inB d := by unfold inB; simp only [List.append_assoc]
theorem outB_eq (d : OutD) (l : List Int) : l ++ leB (d.value % 18446744073709551616) 8 ++ textB d.script = l ++ outB d := by unfold outB; simp only [List.append_assoc]
theorem any_false_upto {α : Type} (f : α → Bool) (l : List α) (h : ∀ (i : Nat) (x : α), l[i]? = some x → f x = false) : l.any f = false := by
  rw [List.any_eq_false]
  intro x hx
  obtain ⟨i, hi, e⟩ := List.getElem_of_mem hx
  rw [h i x (by rw [List.getElem?_eq_getElem hi, e])]
  simp
theorem any_true_at {α : Type} (f : α → Bool) (l : List α) (i : Nat) (x : α) (h : l[i]? = some x) (hf : f x = true) : l.any f = true := by
  rw [List.any_eq_true]
  exact ⟨x, List.mem_of_getElem? h, hf⟩
end Go.Proofs.YtclhjlkgmeofcaaDoor
