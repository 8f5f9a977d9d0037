/- The law's fixed fact: the digest of "abc", and its text's first four letters. And 'short': at most 600 bytes. -/
import Derived.Test.YtgdbaejcbfofoaaSums
import Derived.Test.YtgdbaejcbfofoaaText
import Derived.Lib.SlBytesConst
import Derived.BigFrame
namespace Go.Proofs.Ytgdbaejcbfofoaa
set_option linter.unusedVariables false
set_option linter.unusedSimpArgs false
open Go Go.RowKit

def abcH : List Int := [186, 120, 22, 191, 143, 1, 207, 234, 65, 65, 64, 222, 93, 174, 34, 35, 176, 3, 97, 163, 150, 23, 122, 156, 180, 16, 255, 97, 242, 0, 21, 173]
theorem sha_abc : sha256 [97, 98, 99] = abcH := by decide +kernel
def abcT : List UInt8 := [97, 100, 49, 53, 48, 48, 102, 50, 54, 49, 102, 102, 49, 48, 98, 52, 57, 99, 55, 97, 49, 55, 57, 54, 97, 51, 54, 49, 48, 51, 98, 48, 50, 51, 50, 50, 97, 101, 53, 100, 100, 101, 52, 48, 52, 49, 52, 49, 101, 97, 99, 102, 48, 49, 56, 102, 98, 102, 49, 54, 55, 56, 98, 97]
theorem text_abc : textB abcH = abcT := by decide +kernel
theorem abc_bytes : Bytes abcH := by unfold Bytes Byte; decide
/-- a constant string's bytes: the row has the run-time's mark behind it -/
theorem Row.marked {w : World} (vs : List Value) (T : TypeId) (C : Array Value) (hC : C = vs.toArray) (k : Nat) (hk : k = vs.length) : Row (w.alloc (.cells C T (k, k + 1))) w.heap.size 0 vs := fun j v hv => by
  subst hC hk
  have hj : j < vs.length := by
    by_cases hj : j < vs.length
    · exact hj
    · rw [List.getElem?_eq_none (by omega)] at hv; cases hv
  have hb : (w.alloc (.cells vs.toArray T (vs.length, vs.length + 1))).heap[w.heap.size]? = some (.cells vs.toArray T (vs.length, vs.length + 1)) := heap_alloc_new w _
  rw [Nat.zero_add]
  refine ⟨?_, ?_⟩
  · simp only [World.cell?, hb]; simpa using hv
  · simp only [World.frozen?, hb]; simp; omega
/-- a guarded load of a whole array -/
theorem wpList_load_on {P : Program} {ops : Array Oper} {rest : List Oper} {o : Oper} {a : Act} {w : World} {Q : Exit → Act → World → Prop} (hw : Region.wanted o (yielded ops a.tmps) = true) (ty : TypeId) (x : Operand) (ho : o.op = .load ty x)
    (g off : Nat) (hx : a.eval x = .pointer (some ⟨g, off, none⟩)) (cs : List Value) (d : TypeDesc) (hg : Row w g off cs)
    (hu : P.underlying ty = some d) (hd : (match d with | .struct _ | .array _ _ => true | _ => false) = true) (hi : (P.info? ty).map (·.size) = some cs.length)
    (h : wpList P ops Q rest (a.put o.dst (.agg cs.toArray)) w) : wpList P ops Q (o :: rest) a w :=
  BigFrame.wpList_want hw fun _ hK => by
    unfold Oper.wp execOp
    simp only [ho, hx, Instr.loadAt, Instr.sureAddr, Sem.run_bind, Sem.run_pure, Result.andThen_ok, run_loadVar_at w g off ty cs d hg hu hd hi]
    exact hK _ _ h
set_option maxRecDepth 100000 in
set_option maxHeartbeats 2000000 in
theorem awake_any (w : World) : Calls Try.prog 11 #[] w fun e w' => e = .returned (.bool true) ∧ Keeps w w' := by
  have hT : ∀ W, Calls Try.prog 21 #[.agg (abcH.map (Value.int .u8)).toArray] W fun e w' => e = .returned (.string ⟨abcT.toArray⟩) ∧ Keeps W w' := fun W => by
    have := text_any abcH abc_bytes rfl W
    rwa [text_abc] at this
  have hS : ∀ W, Rd W 1 (.slice (some ⟨w.heap.size, 0, none⟩) 3 3) 3 (([97, 98, 99] : List Int).map (Value.int .u8)) → w.heap.size < W.heap.size → Calls Try.prog 20 #[.slice (some ⟨w.heap.size, 0, none⟩) 3 3] W fun e w' => e = .returned (.agg (abcH.map (Value.int .u8)).toArray) ∧ Keeps W w' := fun W h hl => by
    have := sum256_any _ 3 [97, 98, 99] W h (by unfold Bytes Byte; decide) (by omega)
    rwa [sha_abc] at this
  have HT := Lib.hid hT; have HS := Lib.hid hS
  clear hT hS
  have Z32 : Hid ((Try.prog.info? 37).map (·.size) = some (abcH.map (Value.int .u8)).length) := Lib.hid sz_hash
  have hcv := Lib.run_convert_bytes_const (P := Try.prog) w 22 5 #[.int .u8 97, .int .u8 98, .int .u8 99] 3 3 Try.underlying22 Try.underlying5
  simp only [List.size_toArray, List.length_cons, List.length_nil, Nat.reduceAdd] at hcv
  go_enter Try.func11, Try.ntmps11
  go_upto_region 2 with (first | (go_at_call 20; refine (HS.out _ (Rd.of_row (Row.marked (([97, 98, 99] : List Int).map (Value.int .u8)) 5 _ rfl 3 rfl) rfl (by simp) (by omega) (by unfold maxLen; omega)) (by simp)).mono ?_; rintro e W2 ⟨rfl, hk2⟩; have HK2 := Lib.hid hk2; clear hk2) | (refine wpList_store_row rfl 37 (.tmp 1) (.tmp 4) rfl W2.heap.size 0 rfl (List.replicate 32 (Value.int .u8 0)) (abcH.map (Value.int .u8)) rfl (Row.new _ _ _ rfl) rfl Z32.out (int_oneCell _) ?_; intro W3 hr3 hc3; have HR3 := Lib.hid hr3; have HC3 := Lib.hid hc3; clear hr3 hc3))
  have hk3 : Keeps w W3 := keeps_chg (keeps_alloc ((keeps_alloc (Keeps.refl w) _).trans HK2.out) _) HC3.out (Nat.le_trans (by simp) HK2.out.size)
  have HK3 := Lib.hid hk3
  generalize W2.heap.size = p at *
  have c0 : W3.cell? ⟨p, 0, none⟩ = some (.int .u8 186) := HR3.out.int0 0 (by decide)
  have c1 : W3.cell? ⟨p, 1, none⟩ = some (.int .u8 120) := HR3.out.int0 1 (by decide)
  have c31 : W3.cell? ⟨p, 31, none⟩ = some (.int .u8 173) := HR3.out.int0 31 (by decide)
  clear hk3 HK2 HC3
  have hT4 : ((ByteArray.mk abcT.toArray).extract 0 4).toList = [97, 100, 49, 53] := by decide +kernel
  have hL4 : 4 ≤ (abcT.length : Int) := by decide
  go_wp2_with (first | (go_at_call 21; refine (HT.out _).mono ?_; rintro e W4 ⟨rfl, hk4⟩; have HK4 := Lib.hid hk4; clear hk4) | (refine wpList_load_on (by kernel_rfl) 37 (.tmp 1) rfl p 0 rfl (abcH.map (Value.int .u8)) _ HR3.out Try.underlying37 rfl Z32.out ?_))
  go_ret
  exact ⟨rfl, HK3.out.trans HK4.out⟩
end Go.Proofs.Ytgdbaejcbfofoaa
