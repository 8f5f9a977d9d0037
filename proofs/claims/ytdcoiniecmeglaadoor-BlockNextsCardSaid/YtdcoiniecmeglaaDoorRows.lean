/-
  NARROWER THAN 'FOR EVERY INPUT', by the rows' own cells (each row's printed sentence says how): BlockNumbers: laid · BlockTargets: laid · BlockNexts: laid.
  DERIVED. THE GIVEN ROWS OF THIS SEAT. 3 by the template 'for every input the law returns true; each argument reads behind the call as it read before'; 0 by the template 'total and deterministic' (their statements: YtdcoiniecmeglaaDoorTotals.lean).
  GIVEN WITH THE SEED: the statements are not yours to turn. If you find one false, say at which input.
  Laid BY PROGRAM, IN A SANDBOX (cutbox-rows.mjs): the forced cells as the released guide's own fill.sh prints them over the translation deaab47bebf9d4c9… (all of the seat's roots in one cut). By AI agents, Wed Nov 11 2026. No macro, syntax, notation, axiom, sorry.
-/
import Derived.Test.YtdcoiniecmeglaaDoorChecked
import GoSem.PinnedTables
import GoSem.Claim
import GoSem.ClaimJoined
import GoSem.ClaimMapViews
import Derived.JoinedTies
import Derived.KernelRfl
namespace Go.Proofs.YtdcoiniecmeglaaDoor
/- THE CELL 'sum', in the pinned program and in every row, IS THE sha256 OF THE DUMP (.gsa) THAT YtdcoiniecmeglaaDoorProg.lean LOADS. Nothing in Lean hashes anything: it is a label: what it is worth is what the hold of that sum in a sandbox is worth. -/
noncomputable def Tryd.pinned : Pinned := { name := "ytdcoiniecmeglaadoor", sum := "deaab47bebf9d4c9aff0dcec0f279835a82e1d6e446a8f092b442152bf5bad9c", checked := Tryd.checked }
namespace Rows
def none {H : Type} : Left H := { results := [], args := [] }

/- WHAT THE LISTED PACKAGE-LEVEL VARIABLES READ AS WHEN THE CALL BEGINS. Each datum BY PROGRAM (the guide's laid-datum.mjs) off the statement by which the dump's own 'gosem.cut.vars' lays the variable. In a bare row this is a premise. The card (YtdcoiniecmeglaaDoorCards.lean) ties it to the program's text. -/
def laid_unicode_utf8_acceptRanges {H : Type} : DataW H := .agg [.agg [.lit (.int .u8 128), .lit (.int .u8 191)], .agg [.lit (.int .u8 160), .lit (.int .u8 191)], .agg [.lit (.int .u8 128), .lit (.int .u8 159)], .agg [.lit (.int .u8 144), .lit (.int .u8 191)], .agg [.lit (.int .u8 128), .lit (.int .u8 143)], .agg [.lit (.int .u8 0), .lit (.int .u8 0)], .agg [.lit (.int .u8 0), .lit (.int .u8 0)], .agg [.lit (.int .u8 0), .lit (.int .u8 0)], .agg [.lit (.int .u8 0), .lit (.int .u8 0)], .agg [.lit (.int .u8 0), .lit (.int .u8 0)], .agg [.lit (.int .u8 0), .lit (.int .u8 0)], .agg [.lit (.int .u8 0), .lit (.int .u8 0)], .agg [.lit (.int .u8 0), .lit (.int .u8 0)], .agg [.lit (.int .u8 0), .lit (.int .u8 0)], .agg [.lit (.int .u8 0), .lit (.int .u8 0)], .agg [.lit (.int .u8 0), .lit (.int .u8 0)]]
/-- One of Go's own tables, pinned by name: the form's constant. -/
def laid_unicode_utf8_first : DataW Unit := Go.Pinned.utf8First

/-- 'strongboxlaw10.BlockNumbers': WHATEVER THE INPUT: true; the input reads as it did. -/
def blockNumbersSpec : ChangeSpec := { name := "blockNumbers", fn := fun _ => fun
  | [d1, d2] => { results := [.lit (.bool true)], args := [d1, d2] }
  | _ => none }
def blockNumbersRow : OpenClaim := { program := "ytdcoiniecmeglaadoor", sum := "deaab47bebf9d4c9aff0dcec0f279835a82e1d6e446a8f092b442152bf5bad9c", func := "strongbox/strongboxlaw10.BlockNumbers", spec := "blockNumbers", inPlace := ["internal/bytealg.Compare", "math/bits.Add64"], named := ["unicode/utf8.first", "unicode/utf8.acceptRanges"], apart := false, laid := [("unicode/utf8.acceptRanges", laid_unicode_utf8_acceptRanges), ("unicode/utf8.first", laid_unicode_utf8_first)] }
def BlockNumbersSaid : Prop := blockNumbersRow.holds Tryd.pinned (OpenSpec.ofChange blockNumbersSpec)

/-- ITS FALSE NEIGHBOUR: 'it returns false'. Refute it at one input. -/
def blockNumbersWrong : ChangeSpec := { name := "blockNumbers", fn := fun _ => fun
  | [d1, d2] => { results := [.lit (.bool false)], args := [d1, d2] }
  | _ => none }
def BlockNumbersWrongFalsely : Prop := blockNumbersRow.holds Tryd.pinned (OpenSpec.ofChange blockNumbersWrong)

/-- 'strongboxlaw10.BlockTargets': WHATEVER THE INPUT: true; the input reads as it did. -/
def blockTargetsSpec : ChangeSpec := { name := "blockTargets", fn := fun _ => fun
  | [d1, d2] => { results := [.lit (.bool true)], args := [d1, d2] }
  | _ => none }
def blockTargetsRow : OpenClaim := { program := "ytdcoiniecmeglaadoor", sum := "deaab47bebf9d4c9aff0dcec0f279835a82e1d6e446a8f092b442152bf5bad9c", func := "strongbox/strongboxlaw10.BlockTargets", spec := "blockTargets", inPlace := ["internal/bytealg.Compare", "math/bits.Add64", "math/bits.Sub64"], named := ["unicode/utf8.first", "unicode/utf8.acceptRanges"], apart := false, laid := [("unicode/utf8.acceptRanges", laid_unicode_utf8_acceptRanges), ("unicode/utf8.first", laid_unicode_utf8_first)] }
def BlockTargetsSaid : Prop := blockTargetsRow.holds Tryd.pinned (OpenSpec.ofChange blockTargetsSpec)

/-- ITS FALSE NEIGHBOUR: 'it returns false'. Refute it at one input. -/
def blockTargetsWrong : ChangeSpec := { name := "blockTargets", fn := fun _ => fun
  | [d1, d2] => { results := [.lit (.bool false)], args := [d1, d2] }
  | _ => none }
def BlockTargetsWrongFalsely : Prop := blockTargetsRow.holds Tryd.pinned (OpenSpec.ofChange blockTargetsWrong)

/-- 'strongboxlaw10.BlockNexts': WHATEVER THE INPUT: true; the input reads as it did. -/
def blockNextsSpec : ChangeSpec := { name := "blockNexts", fn := fun _ => fun
  | [d1, d2, d3] => { results := [.lit (.bool true)], args := [d1, d2, d3] }
  | _ => none }
def blockNextsRow : OpenClaim := { program := "ytdcoiniecmeglaadoor", sum := "deaab47bebf9d4c9aff0dcec0f279835a82e1d6e446a8f092b442152bf5bad9c", func := "strongbox/strongboxlaw10.BlockNexts", spec := "blockNexts", inPlace := ["internal/bytealg.Compare", "math/bits.Add64"], named := ["unicode/utf8.first", "unicode/utf8.acceptRanges", "math/bits.divideError", "math/bits.overflowError"], apart := false, laid := [("unicode/utf8.acceptRanges", laid_unicode_utf8_acceptRanges), ("unicode/utf8.first", laid_unicode_utf8_first)] }
def BlockNextsSaid : Prop := blockNextsRow.holds Tryd.pinned (OpenSpec.ofChange blockNextsSpec)

/-- ITS FALSE NEIGHBOUR: 'it returns false'. Refute it at one input. -/
def blockNextsWrong : ChangeSpec := { name := "blockNexts", fn := fun _ => fun
  | [d1, d2, d3] => { results := [.lit (.bool false)], args := [d1, d2, d3] }
  | _ => none }
def BlockNextsWrongFalsely : Prop := blockNextsRow.holds Tryd.pinned (OpenSpec.ofChange blockNextsWrong)

/- THE SECOND FORM. 'bulk': how many values and letters a reading holds, each counted each time it is reached (what is shared counts as often as it is met; a slice's spare places count too). A statement '..UptoSaid' is the law's where the arguments, and the package variables that the reading takes, are together of bulk at most 1048576: NARROWER than '..Said'. Prove '..Said' where nothing that the law and all that it calls make is longer than what came in: it says more and counts as full. Else prove '..UptoSaid'. A law counts once. -/
mutual
def uptoBulk {H : Type} : DataW H → Nat
  | .lit (.string bytes) => bytes.length + 1
  | .lit _ => 1
  | .nil => 1
  | .ptr d => uptoBulk d + 1
  | .slice elems spare => uptoBulkAll elems + uptoBulkAll spare + 1
  | .agg parts => uptoBulkAll parts + 1
  | .iface _ d => uptoBulk d + 1
  | .map entries => uptoBulkEntries entries + 1
  | .held _ => 1
def uptoBulkAll {H : Type} : List (DataW H) → Nat
  | [] => 0
  | d :: r => uptoBulk d + uptoBulkAll r
def uptoBulkEntries {H : Type} : List (Lit × DataW H) → Nat
  | [] => 0
  | x :: r => uptoBulkEntry x + uptoBulkEntries r
def uptoBulkEntry {H : Type} : Lit × DataW H → Nat
  | (.string bytes, d) => bytes.length + uptoBulk d + 1
  | (_, d) => uptoBulk d + 1
 end
def uptoSmall : (H : Type) → List (DataW H) → Bool := fun _ ds => decide (uptoBulkAll ds ≤ 1048576)
def OpenSpec.upto (s : _root_.Go.ChangeSpec) : _root_.Go.OpenSpec := { _root_.Go.OpenSpec.ofChange s with cond := some uptoSmall }

/-- 'strongboxlaw10.BlockNumbers', WHERE WHAT IT READS IS OF BULK AT MOST 1048576: true; the input reads as it did. -/
def blockNumbersUptoRow : OpenClaim := { program := "ytdcoiniecmeglaadoor", sum := "deaab47bebf9d4c9aff0dcec0f279835a82e1d6e446a8f092b442152bf5bad9c", func := "strongbox/strongboxlaw10.BlockNumbers", spec := "blockNumbers", inPlace := ["internal/bytealg.Compare", "math/bits.Add64"], named := ["unicode/utf8.first", "unicode/utf8.acceptRanges"], apart := false, laid := [("unicode/utf8.acceptRanges", laid_unicode_utf8_acceptRanges), ("unicode/utf8.first", laid_unicode_utf8_first)], narrowed := true }
def BlockNumbersUptoSaid : Prop := blockNumbersUptoRow.holds Tryd.pinned (OpenSpec.upto blockNumbersSpec)

/-- 'strongboxlaw10.BlockTargets', WHERE WHAT IT READS IS OF BULK AT MOST 1048576: true; the input reads as it did. -/
def blockTargetsUptoRow : OpenClaim := { program := "ytdcoiniecmeglaadoor", sum := "deaab47bebf9d4c9aff0dcec0f279835a82e1d6e446a8f092b442152bf5bad9c", func := "strongbox/strongboxlaw10.BlockTargets", spec := "blockTargets", inPlace := ["internal/bytealg.Compare", "math/bits.Add64", "math/bits.Sub64"], named := ["unicode/utf8.first", "unicode/utf8.acceptRanges"], apart := false, laid := [("unicode/utf8.acceptRanges", laid_unicode_utf8_acceptRanges), ("unicode/utf8.first", laid_unicode_utf8_first)], narrowed := true }
def BlockTargetsUptoSaid : Prop := blockTargetsUptoRow.holds Tryd.pinned (OpenSpec.upto blockTargetsSpec)

/-- 'strongboxlaw10.BlockNexts', WHERE WHAT IT READS IS OF BULK AT MOST 1048576: true; the input reads as it did. -/
def blockNextsUptoRow : OpenClaim := { program := "ytdcoiniecmeglaadoor", sum := "deaab47bebf9d4c9aff0dcec0f279835a82e1d6e446a8f092b442152bf5bad9c", func := "strongbox/strongboxlaw10.BlockNexts", spec := "blockNexts", inPlace := ["internal/bytealg.Compare", "math/bits.Add64"], named := ["unicode/utf8.first", "unicode/utf8.acceptRanges", "math/bits.divideError", "math/bits.overflowError"], apart := false, laid := [("unicode/utf8.acceptRanges", laid_unicode_utf8_acceptRanges), ("unicode/utf8.first", laid_unicode_utf8_first)], narrowed := true }
def BlockNextsUptoSaid : Prop := blockNextsUptoRow.holds Tryd.pinned (OpenSpec.upto blockNextsSpec)

end Rows
end Go.Proofs.YtdcoiniecmeglaaDoor
