/- Gates ahead of a walk's arms: each fits one kind of operation by its text alone, so that a law which does not fit fails at once. No condition. -/
import Derived.Test.YtjfkkdkmpnpmpaaKit
namespace Go.Proofs.Ytjfkkdkmpnpmpaa
set_option linter.unusedVariables false
set_option linter.unusedSimpArgs false
open Go Go.RowKit
section
variable {P : Program} {ops : Array Oper} {rest : List Oper} {a : Act} {w : World} {Q : Exit → Act → World → Prop} {d : Option Tmp} {y : TypeId} {p : String} {af : Array Edge} {gd : Option (Nat × Bool)}
theorem gate_load (t : TypeId) (x : Operand) (h : wpList P ops Q (⟨d, .load t x, y, p, af, gd⟩ :: rest) a w) : wpList P ops Q (⟨d, .load t x, y, p, af, gd⟩ :: rest) a w := h
theorem gate_store (t : TypeId) (x z : Operand) (h : wpList P ops Q (⟨d, .store t x z, y, p, af, gd⟩ :: rest) a w) : wpList P ops Q (⟨d, .store t x z, y, p, af, gd⟩ :: rest) a w := h
theorem gate_bin (b : BinOp) (t t' : TypeId) (x z : Operand) (h : wpList P ops Q (⟨d, .binOp b t x z t', y, p, af, gd⟩ :: rest) a w) : wpList P ops Q (⟨d, .binOp b t x z t', y, p, af, gd⟩ :: rest) a w := h
theorem gate_build (t : TypeId) (xs : Array (Nat × Operand)) (h : wpList P ops Q (⟨d, .build t xs, y, p, af, gd⟩ :: rest) a w) : wpList P ops Q (⟨d, .build t xs, y, p, af, gd⟩ :: rest) a w := h
end
end Go.Proofs.Ytjfkkdkmpnpmpaa
