/-
  No cell of these rows narrows 'for every input' (looked for: loops, veiled, ifaces, maps, wideKeys, modest, calm, conditions, laid).
  DERIVED. THE GIVEN ROWS OF THIS SEAT. 6 by the template 'for every input the law returns true; each argument reads behind the call as it read before'; 0 by the template 'total and deterministic' (their statements: YtajipagpdphejaaTotals.lean).
  GIVEN WITH THE SEED: the statements are not yours to turn. If you find one false, say at which input.
  Laid BY PROGRAM, IN A SANDBOX (cutbox-rows.mjs): the forced cells as the released guide's own fill.sh prints them over the translation 4131371ff16f9bdb… (all of the seat's roots in one cut). By AI agents, Wed Nov 11 2026. No macro, syntax, notation, axiom, sorry.
-/
import Derived.Test.YtajipagpdphejaaChecked
import GoSem.Claim
import GoSem.ClaimJoined
import GoSem.ClaimMapViews
import Derived.JoinedTies
import Derived.KernelRfl
namespace Go.Proofs.Ytajipagpdphejaa
/- THE CELL 'sum', in the pinned program and in every row, IS THE sha256 OF THE DUMP (.gsa) THAT YtajipagpdphejaaProg.lean LOADS. Nothing in Lean hashes anything: it is a label: what it is worth is what the hold of that sum in a sandbox is worth. -/
noncomputable def Try.pinned : Pinned := { name := "ytajipagpdphejaa", sum := "4131371ff16f9bdb7ab5cce47cf003972b895a7fb07c20a12fefe775644a856e", checked := Try.checked }
namespace Rows
def none {H : Type} : Left H := { results := [], args := [] }

/-- 'strongboxlaw05.CurvePublics': WHATEVER THE INPUT: true; the input reads as it did. -/
def curvePublicsSpec : ChangeSpec := { name := "curvePublics", fn := fun _ => fun
  | [d1, d2] => { results := [.lit (.bool true)], args := [d1, d2] }
  | _ => none }
def curvePublicsRow : OpenClaim := { program := "ytajipagpdphejaa", sum := "4131371ff16f9bdb7ab5cce47cf003972b895a7fb07c20a12fefe775644a856e", func := "strongbox/strongboxlaw05.CurvePublics", spec := "curvePublics", inPlace := ["math/bits.Sub64", "math/bits.Add64"], apart := false }
def CurvePublicsSaid : Prop := curvePublicsRow.holds Try.pinned (OpenSpec.ofChange curvePublicsSpec)

/-- ITS FALSE NEIGHBOUR: 'it returns false'. Refute it at one input. -/
def curvePublicsWrong : ChangeSpec := { name := "curvePublics", fn := fun _ => fun
  | [d1, d2] => { results := [.lit (.bool false)], args := [d1, d2] }
  | _ => none }
def CurvePublicsWrongFalsely : Prop := curvePublicsRow.holds Try.pinned (OpenSpec.ofChange curvePublicsWrong)

/-- 'strongboxlaw05.CurveVerifies': WHATEVER THE INPUT: true; the input reads as it did. -/
def curveVerifiesSpec : ChangeSpec := { name := "curveVerifies", fn := fun _ => fun
  | [d1, d2, d3] => { results := [.lit (.bool true)], args := [d1, d2, d3] }
  | _ => none }
def curveVerifiesRow : OpenClaim := { program := "ytajipagpdphejaa", sum := "4131371ff16f9bdb7ab5cce47cf003972b895a7fb07c20a12fefe775644a856e", func := "strongbox/strongboxlaw05.CurveVerifies", spec := "curveVerifies", inPlace := ["math/bits.Sub64", "math/bits.Add64"], apart := false }
def CurveVerifiesSaid : Prop := curveVerifiesRow.holds Try.pinned (OpenSpec.ofChange curveVerifiesSpec)

/-- ITS FALSE NEIGHBOUR: 'it returns false'. Refute it at one input. -/
def curveVerifiesWrong : ChangeSpec := { name := "curveVerifies", fn := fun _ => fun
  | [d1, d2, d3] => { results := [.lit (.bool false)], args := [d1, d2, d3] }
  | _ => none }
def CurveVerifiesWrongFalsely : Prop := curveVerifiesRow.holds Try.pinned (OpenSpec.ofChange curveVerifiesWrong)

/-- 'strongboxlaw05.CurveAdds': WHATEVER THE INPUT: true; the input reads as it did. -/
def curveAddsSpec : ChangeSpec := { name := "curveAdds", fn := fun _ => fun
  | [d1, d2, d3] => { results := [.lit (.bool true)], args := [d1, d2, d3] }
  | _ => none }
def curveAddsRow : OpenClaim := { program := "ytajipagpdphejaa", sum := "4131371ff16f9bdb7ab5cce47cf003972b895a7fb07c20a12fefe775644a856e", func := "strongbox/strongboxlaw05.CurveAdds", spec := "curveAdds", inPlace := ["math/bits.Sub64", "math/bits.Add64"], apart := false }
def CurveAddsSaid : Prop := curveAddsRow.holds Try.pinned (OpenSpec.ofChange curveAddsSpec)

/-- ITS FALSE NEIGHBOUR: 'it returns false'. Refute it at one input. -/
def curveAddsWrong : ChangeSpec := { name := "curveAdds", fn := fun _ => fun
  | [d1, d2, d3] => { results := [.lit (.bool false)], args := [d1, d2, d3] }
  | _ => none }
def CurveAddsWrongFalsely : Prop := curveAddsRow.holds Try.pinned (OpenSpec.ofChange curveAddsWrong)

/-- 'strongboxlaw05.CurveAgrees': WHATEVER THE INPUT: true; the input reads as it did. -/
def curveAgreesSpec : ChangeSpec := { name := "curveAgrees", fn := fun _ => fun
  | [d1, d2] => { results := [.lit (.bool true)], args := [d1, d2] }
  | _ => none }
def curveAgreesRow : OpenClaim := { program := "ytajipagpdphejaa", sum := "4131371ff16f9bdb7ab5cce47cf003972b895a7fb07c20a12fefe775644a856e", func := "strongbox/strongboxlaw05.CurveAgrees", spec := "curveAgrees", inPlace := ["math/bits.Sub64", "math/bits.Add64"], apart := false }
def CurveAgreesSaid : Prop := curveAgreesRow.holds Try.pinned (OpenSpec.ofChange curveAgreesSpec)

/-- ITS FALSE NEIGHBOUR: 'it returns false'. Refute it at one input. -/
def curveAgreesWrong : ChangeSpec := { name := "curveAgrees", fn := fun _ => fun
  | [d1, d2] => { results := [.lit (.bool false)], args := [d1, d2] }
  | _ => none }
def CurveAgreesWrongFalsely : Prop := curveAgreesRow.holds Try.pinned (OpenSpec.ofChange curveAgreesWrong)

/-- 'strongboxlaw05.CurveSigns': WHATEVER THE INPUT: true; the input reads as it did. -/
def curveSignsSpec : ChangeSpec := { name := "curveSigns", fn := fun _ => fun
  | [d1, d2] => { results := [.lit (.bool true)], args := [d1, d2] }
  | _ => none }
def curveSignsRow : OpenClaim := { program := "ytajipagpdphejaa", sum := "4131371ff16f9bdb7ab5cce47cf003972b895a7fb07c20a12fefe775644a856e", func := "strongbox/strongboxlaw05.CurveSigns", spec := "curveSigns", inPlace := ["math/bits.Sub64", "math/bits.Add64"], apart := false }
def CurveSignsSaid : Prop := curveSignsRow.holds Try.pinned (OpenSpec.ofChange curveSignsSpec)

/-- ITS FALSE NEIGHBOUR: 'it returns false'. Refute it at one input. -/
def curveSignsWrong : ChangeSpec := { name := "curveSigns", fn := fun _ => fun
  | [d1, d2] => { results := [.lit (.bool false)], args := [d1, d2] }
  | _ => none }
def CurveSignsWrongFalsely : Prop := curveSignsRow.holds Try.pinned (OpenSpec.ofChange curveSignsWrong)

/-- 'strongboxlaw05.CurveOther': WHATEVER THE INPUT: true; the input reads as it did. -/
def curveOtherSpec : ChangeSpec := { name := "curveOther", fn := fun _ => fun
  | [d1, d2, d3] => { results := [.lit (.bool true)], args := [d1, d2, d3] }
  | _ => none }
def curveOtherRow : OpenClaim := { program := "ytajipagpdphejaa", sum := "4131371ff16f9bdb7ab5cce47cf003972b895a7fb07c20a12fefe775644a856e", func := "strongbox/strongboxlaw05.CurveOther", spec := "curveOther", inPlace := ["math/bits.Sub64", "math/bits.Add64"], apart := false }
def CurveOtherSaid : Prop := curveOtherRow.holds Try.pinned (OpenSpec.ofChange curveOtherSpec)

/-- ITS FALSE NEIGHBOUR: 'it returns false'. Refute it at one input. -/
def curveOtherWrong : ChangeSpec := { name := "curveOther", fn := fun _ => fun
  | [d1, d2, d3] => { results := [.lit (.bool false)], args := [d1, d2, d3] }
  | _ => none }
def CurveOtherWrongFalsely : Prop := curveOtherRow.holds Try.pinned (OpenSpec.ofChange curveOtherWrong)

/- THE SECOND FORM. 'bulk': how many values and letters a reading holds, each counted each time it is reached (what is shared counts as often as it is met; a slice's spare places count too). A statement '..UptoSaid' is the law's where the arguments, and the package variables that the reading takes, are together of bulk at most 1048576: NARROWER than '..Said'. Prove '..Said' where nothing that the law and all that it calls make is longer than what came in: it says more and counts as full. Else prove '..UptoSaid'. A law counts once. -/
mutual
def uptoBulk {H : Type} : DataW H → Nat
  | .lit (.string bytes) => bytes.length + 1
  | .lit _ => 1
  | .nil => 1
  | .ptr d => uptoBulk d + 1
  | .slice elems spare => uptoBulkAll elems + uptoBulkAll spare + 1
  | .agg parts => uptoBulkAll parts + 1
  | .iface _ d => uptoBulk d + 1
  | .map entries => uptoBulkEntries entries + 1
  | .held _ => 1
def uptoBulkAll {H : Type} : List (DataW H) → Nat
  | [] => 0
  | d :: r => uptoBulk d + uptoBulkAll r
def uptoBulkEntries {H : Type} : List (Lit × DataW H) → Nat
  | [] => 0
  | x :: r => uptoBulkEntry x + uptoBulkEntries r
def uptoBulkEntry {H : Type} : Lit × DataW H → Nat
  | (.string bytes, d) => bytes.length + uptoBulk d + 1
  | (_, d) => uptoBulk d + 1
 end
def uptoSmall : (H : Type) → List (DataW H) → Bool := fun _ ds => decide (uptoBulkAll ds ≤ 1048576)
def OpenSpec.upto (s : _root_.Go.ChangeSpec) : _root_.Go.OpenSpec := { _root_.Go.OpenSpec.ofChange s with cond := some uptoSmall }

/-- 'strongboxlaw05.CurvePublics', WHERE WHAT IT READS IS OF BULK AT MOST 1048576: true; the input reads as it did. -/
def curvePublicsUptoRow : OpenClaim := { program := "ytajipagpdphejaa", sum := "4131371ff16f9bdb7ab5cce47cf003972b895a7fb07c20a12fefe775644a856e", func := "strongbox/strongboxlaw05.CurvePublics", spec := "curvePublics", inPlace := ["math/bits.Sub64", "math/bits.Add64"], apart := false, narrowed := true }
def CurvePublicsUptoSaid : Prop := curvePublicsUptoRow.holds Try.pinned (OpenSpec.upto curvePublicsSpec)

/-- 'strongboxlaw05.CurveVerifies', WHERE WHAT IT READS IS OF BULK AT MOST 1048576: true; the input reads as it did. -/
def curveVerifiesUptoRow : OpenClaim := { program := "ytajipagpdphejaa", sum := "4131371ff16f9bdb7ab5cce47cf003972b895a7fb07c20a12fefe775644a856e", func := "strongbox/strongboxlaw05.CurveVerifies", spec := "curveVerifies", inPlace := ["math/bits.Sub64", "math/bits.Add64"], apart := false, narrowed := true }
def CurveVerifiesUptoSaid : Prop := curveVerifiesUptoRow.holds Try.pinned (OpenSpec.upto curveVerifiesSpec)

/-- 'strongboxlaw05.CurveAdds', WHERE WHAT IT READS IS OF BULK AT MOST 1048576: true; the input reads as it did. -/
def curveAddsUptoRow : OpenClaim := { program := "ytajipagpdphejaa", sum := "4131371ff16f9bdb7ab5cce47cf003972b895a7fb07c20a12fefe775644a856e", func := "strongbox/strongboxlaw05.CurveAdds", spec := "curveAdds", inPlace := ["math/bits.Sub64", "math/bits.Add64"], apart := false, narrowed := true }
def CurveAddsUptoSaid : Prop := curveAddsUptoRow.holds Try.pinned (OpenSpec.upto curveAddsSpec)

/-- 'strongboxlaw05.CurveAgrees', WHERE WHAT IT READS IS OF BULK AT MOST 1048576: true; the input reads as it did. -/
def curveAgreesUptoRow : OpenClaim := { program := "ytajipagpdphejaa", sum := "4131371ff16f9bdb7ab5cce47cf003972b895a7fb07c20a12fefe775644a856e", func := "strongbox/strongboxlaw05.CurveAgrees", spec := "curveAgrees", inPlace := ["math/bits.Sub64", "math/bits.Add64"], apart := false, narrowed := true }
def CurveAgreesUptoSaid : Prop := curveAgreesUptoRow.holds Try.pinned (OpenSpec.upto curveAgreesSpec)

/-- 'strongboxlaw05.CurveSigns', WHERE WHAT IT READS IS OF BULK AT MOST 1048576: true; the input reads as it did. -/
def curveSignsUptoRow : OpenClaim := { program := "ytajipagpdphejaa", sum := "4131371ff16f9bdb7ab5cce47cf003972b895a7fb07c20a12fefe775644a856e", func := "strongbox/strongboxlaw05.CurveSigns", spec := "curveSigns", inPlace := ["math/bits.Sub64", "math/bits.Add64"], apart := false, narrowed := true }
def CurveSignsUptoSaid : Prop := curveSignsUptoRow.holds Try.pinned (OpenSpec.upto curveSignsSpec)

/-- 'strongboxlaw05.CurveOther', WHERE WHAT IT READS IS OF BULK AT MOST 1048576: true; the input reads as it did. -/
def curveOtherUptoRow : OpenClaim := { program := "ytajipagpdphejaa", sum := "4131371ff16f9bdb7ab5cce47cf003972b895a7fb07c20a12fefe775644a856e", func := "strongbox/strongboxlaw05.CurveOther", spec := "curveOther", inPlace := ["math/bits.Sub64", "math/bits.Add64"], apart := false, narrowed := true }
def CurveOtherUptoSaid : Prop := curveOtherUptoRow.holds Try.pinned (OpenSpec.upto curveOtherSpec)

end Rows
end Go.Proofs.Ytajipagpdphejaa
