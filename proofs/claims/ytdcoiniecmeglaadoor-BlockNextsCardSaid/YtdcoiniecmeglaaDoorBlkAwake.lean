/- strongboxlaw10.awake: it says yes. -/
import Derived.Test.YtdcoiniecmeglaaDoorNumBits
import Derived.Test.YtdcoiniecmeglaaDoorNumSub
import Derived.Test.YtdcoiniecmeglaaDoorHead
namespace Go.Proofs.YtdcoiniecmeglaaDoor
set_option linter.unusedVariables false
set_option linter.unusedSimpArgs false
open Go Go.RowKit

/-- a guarded load of a whole array -/
theorem wpList_load_on {P : Program} {ops : Array Oper} {rest : List Oper} {o : Oper} {a : Act} {w : World} {Q : Exit → Act → World → Prop} (hw : Region.wanted o (yielded ops a.tmps) = true) (ty : TypeId) (x : Operand) (ho : o.op = .load ty x)
    (g off : Nat) (hx : a.eval x = .pointer (some ⟨g, off, none⟩)) (cs : List Value) (d : TypeDesc) (hg : Row w g off cs)
    (hu : P.underlying ty = some d) (hd : (match d with | .struct _ | .array _ _ => true | _ => false) = true) (hi : (P.info? ty).map (·.size) = some cs.length)
    (h : wpList P ops Q rest (a.put o.dst (.agg cs.toArray)) w) : wpList P ops Q (o :: rest) a w :=
  BigFrame.wpList_want hw fun _ hK => by
    unfold Oper.wp execOp
    simp only [ho, hx, Instr.loadAt, Instr.sureAddr, Sem.run_bind, Sem.run_pure, Result.andThen_ok, run_loadVar_at w g off ty cs d hg hu hd hi]
    exact hK _ _ h
/-- a guarded build of a value of noughts -/
theorem wpList_zero_on {P : Program} {ops : Array Oper} {rest : List Oper} {o : Oper} {a : Act} {w : World} {Q : Exit → Act → World → Prop} (hw : Region.wanted o (yielded ops a.tmps) = true) (ty : TypeId) (ho : o.op = .build ty #[])
    (z : Value) (hz : (execOp a.eval o).run P w = .ok (.value z) w)
    (h : wpList P ops Q rest (a.put o.dst z) w) : wpList P ops Q (o :: rest) a w :=
  BigFrame.wpList_want hw fun _ hK => by
    unfold Oper.wp
    rw [hz]
    exact hK _ _ h
def awkB : List Int := [0, 0, 0, 0, 255, 255, 0, 0, 0, 0, 0, 0, 0, 0, 0, 0, 0, 0, 0, 0, 0, 0, 0, 0, 0, 0, 0, 0, 0, 0, 0, 0]
theorem awk_target : tgtRes 486604799 = awkB := by decide +kernel
theorem awk_err : tgtErr 486604799 = 0 := by decide +kernel
theorem awk_bits : bitsOf awkB = 486604799 := by decide +kernel
theorem awk_coins : subsidy 300 = 1250000000 := by decide +kernel
theorem awk_bytes : Bytes awkB := by unfold Bytes Byte; decide +kernel
def head0 : List Value := headCells 0 (List.replicate 32 0) (List.replicate 32 0) 0 0 0
set_option maxRecDepth 100000 in
set_option maxHeartbeats 2000000 in
theorem awake_any (w : World) : Calls Tryd.prog 6 #[] w fun e w' => e = .returned (.bool true) ∧ Keeps w w' := by
  have hT : ∀ W, Calls Tryd.prog 11 #[.int .u32 486604799] W fun e w' => e = .returned (.tuple #[.agg (awkB.map (Value.int .u8)).toArray, .int .i64 0]) ∧ Keeps W w' := fun W => by
    have := target_any 486604799 (by decide) (by decide) W
    rwa [awk_target, awk_err] at this
  have hB : ∀ W, Calls Tryd.prog 13 #[.agg (awkB.map (Value.int .u8)).toArray] W fun e w' => e = .returned (.int .u32 486604799) ∧ Keeps W w' := fun W => by
    have := bits_any awkB awk_bytes rfl W
    rwa [awk_bits] at this
  have hS : ∀ W, Calls Tryd.prog 19 #[.int .i64 300] W fun e w' => e = .returned (.int .i64 1250000000) ∧ W = w' := fun W => by
    have := subsidy_any 300 (by decide) (by decide) W
    rwa [awk_coins] at this
  have hH : ∀ W, Calls Tryd.prog 21 #[.agg head0.toArray] W fun e w' => ∃ a c, e = .returned (.slice a 80 c) ∧ Keeps W w' := fun W => by
    refine (encodeHeader_any 0 (List.replicate 32 0) (List.replicate 32 0) 0 0 0 (by decide) (by decide) (by unfold U32; decide) (by unfold U32; decide) (by unfold U32; decide) W).mono ?_
    rintro e w' ⟨v, rfl, hO⟩
    obtain ⟨a, c, rfl⟩ := hO.any
    exact ⟨a, c, rfl, hO.keeps⟩
  have hl9 : awkB.length = 32 := rfl
  have b4 : awkB.getD 4 0 = 255 := rfl
  have b6 : awkB.getD 6 0 = 0 := rfl
  have HT := Lib.hid hT; have HB := Lib.hid hB; have HS := Lib.hid hS; have HH := Lib.hid hH; have B4 := Lib.hid b4; have B6 := Lib.hid b6
  clear hT hB hS hH b4 b6
  generalize awkB = L at *
  go_enter Tryd.func6, Tryd.ntmps6
  go_upto_region 2 with (first | (go_at_call 11; refine (HT.out _).mono ?_; rintro e W2 ⟨rfl, hk2⟩; have HK2 := Lib.hid hk2; clear hk2) | (refine wpList_store_row rfl 23 (.tmp 1) (.tmp 5) rfl _ 0 rfl (List.replicate 32 (Value.int .u8 0)) (L.map (Value.int .u8)) rfl (Row.new _ _ _ rfl) (by simp [hl9]) (sz_n32 L hl9) (int_oneCell _) ?_; intro W3 hr3 hc3; have HR3 := Lib.hid hr3; have HC3 := Lib.hid hc3; clear hr3 hc3))
  have hk3 : Keeps w W3 := keeps_chg (keeps_alloc HK2.out _) HC3.out HK2.out.size
  have HK3 := Lib.hid hk3
  generalize W2.heap.size = p at *
  have c4 := HR3.out.int0 4 (by omega)
  have c6 := HR3.out.int0 6 (by omega)
  rw [B4.out] at c4
  rw [B6.out] at c6
  clear hk3 HK2 HC3
  have HZ0 : ∀ (W : World) (a : Act) (o : Oper), o.op = .build 48 #[] → (execOp a.eval o).run Tryd.prog W = .ok (.value (.agg head0.toArray)) W := fun W a o ho => by
    unfold execOp; rw [ho]; kernel_rfl
  generalize head0 = H0 at *
  have HZ := Lib.hid HZ0
  clear HZ0
  go_wp2_with (first | (refine wpList_load_on (by kernel_rfl) 23 (.tmp 1) rfl p 0 rfl (L.map (Value.int .u8)) _ HR3.out Tryd.underlying23 rfl (sz_n32 L hl9) ?_) | (refine wpList_zero_on (by kernel_rfl) 48 rfl _ (HZ.out _ _ _ rfl) ?_) | (go_at_call 13; refine (HB.out _).mono ?_; rintro e W4 ⟨rfl, hk4⟩; have HK4 := Lib.hid hk4; clear hk4) | (go_at_call 19; refine (HS.out _).mono ?_; rintro e W5 ⟨rfl, rfl⟩) | (go_at_call 21; refine (HH.out _).mono ?_; rintro e W6 ⟨a6, c6', rfl, hk6⟩; have HK6 := Lib.hid hk6; clear hk6))
  go_ret
  exact ⟨rfl, (HK3.out.trans HK4.out).trans HK6.out⟩
end Go.Proofs.YtdcoiniecmeglaaDoor
