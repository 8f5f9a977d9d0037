/- The reference's Equal of bytes. -/
import Derived.Test.YtjfkkdkmpnpmpaaTxAmt
import Derived.Laws.BytesArg
import Derived.ChangeKeysEq
namespace Go.Proofs.Ytjfkkdkmpnpmpaa
set_option linter.unusedVariables false
set_option linter.unusedSimpArgs false
open Go Go.RowKit

/-- the string of such bytes -/
theorem conv_any {S : Nat → Prop} {w : World} {v : Value} {l : List Int} (h : RB S w v l) : (convert 39 9 v).run Try.prog w = .ok (.string (strOfNums l)) w := by
  obtain ⟨h0, a, cap, rfl, h2, h3, h4, h5⟩ := h.rd
  by_cases hl : l.length = 0
  · have hnil : l = [] := List.length_eq_zero_iff.1 hl
    subst hnil
    show (convert 39 9 (.slice a 0 cap)).run Try.prog w = _
    cases a with
    | none => exact run_convert_bytes_nil w 39 5 Try.underlying39 Try.underlying5 0 cap 9 Try.underlying9
    | some ad =>
      rw [run_convert_bytes_string w 39 9 5 _ 0 cap Try.underlying39 Try.underlying5 Try.underlying9]
      simp [Conv.bytesToString, loadCells]
      rfl
  · cases a with
    | none => exact absurd (h4 rfl).1 hl
    | some ad =>
      obtain ⟨g, off, rfl, hg, hr⟩ := h5 ad rfl (by omega)
      exact run_convert_bytes_arg w 39 5 Try.underlying39 Try.underlying5 g off l.length cap l rfl (fun i hi => hr.int i hi) 9 Try.underlying9
theorem strOf_inj {a b : List Int} (ha : Bytes a) (hb : Bytes b) (h : strOfNums a = strOfNums b) : a = b := by
  have h1 : a.map (fun n => UInt8.ofNat n.toNat) = b.map (fun n => UInt8.ofNat n.toNat) := by rw [← strOfNums_data, ← strOfNums_data, h]
  clear h
  induction a generalizing b with
  | nil => cases b with
    | nil => rfl
    | cons _ _ => simp at h1
  | cons x r ih => cases b with
    | nil => simp at h1
    | cons y q =>
      simp only [List.map_cons, List.cons.injEq] at h1
      have hx := ha x (by simp); have hy := hb y (by simp)
      obtain ⟨x0, x1⟩ := hx
      obtain ⟨y0, y1⟩ := hy
      have e := congrArg UInt8.toNat h1.1
      simp only [UInt8.toNat_ofNat'] at e
      rw [ih (fun z hz => ha z (by simp [hz])) (fun z hz => hb z (by simp [hz])) h1.2, show x = y by omega]
theorem requal_any {S S' : Nat → Prop} {w : World} {v v' : Value} {l l' : List Int} (h : RB S w v l) (h' : RB S' w v' l') : Calls Try.prog 29 #[v, v'] w fun e w' => e = .returned (.bool (decide (l = l'))) ∧ w = w' := by
  have hc1 := conv_any h
  have hc2 := conv_any h'
  have hinj := strOf_inj h.bytes h'.bytes
  clear h h'
  have HC1 := Lib.hid hinj
  clear hinj
  go_enter Try.func29, Try.ntmps29
  go_wp2
  go_ret
  refine ⟨?_, rfl⟩
  by_cases e : l = l'
  · subst e
    exact ret_bool (by simp)
  · have h1 : ((strOfNums l).toList == (strOfNums l').toList) = false := beq_eq_false_iff_ne.2 (fun h2 => e (HC1.out (by
      rw [ByteArray.toList_eq, ByteArray.toList_eq] at h2
      exact ByteArray.ext (Array.toList_inj.1 h2))))
    exact ret_bool (by rw [h1, decide_eq_false e])
set_option maxRecDepth 100000 in
theorem rsameL_any {S T S' T' : Nat → Prop} {w : World} {v v' : Value} {ls ls' : List (List Int)} (h : RLL S T w v ls) (h' : RLL S' T' w v' ls') : Calls Try.prog 43 #[v, v'] w fun e w' => e = .returned (.bool (decide (ls = ls'))) ∧ Keeps w w' := by
  have H1 := Lib.hid h; have H2 := Lib.hid h'
  obtain ⟨a, c, rfl, hc, hcm, -⟩ := h.any
  obtain ⟨a', c', rfl, hc', hcm', -⟩ := h'.any
  have hsm : ls.length * 24 ≤ 140737488355328 := by obtain ⟨_, h⟩ := h; exact h.small
  have hsm' : ls'.length * 24 ≤ 140737488355328 := by obtain ⟨_, h⟩ := h'; exact h.small
  clear h h'
  by_cases hlen : ls.length = ls'.length
  rotate_left
  · have hne : ¬ ls = ls' := fun e => hlen (by rw [e])
    have hz : ((ls.length : Int) == ls'.length) = false := beq_eq_false_iff_ne.2 (by omega)
    rw [decide_eq_false hne]
    go_enter Try.func43, Try.ntmps43
    go_wp2
    go_ret
    exact ⟨by first | rfl | exact ret_bool (by simp), Keeps.refl _⟩
  · obtain ⟨R, hR⟩ : ∃ R : Bool, R = decide (ls = ls') := ⟨_, rfl⟩
    rw [← hR]
    have HR := Lib.hid hR
    clear hR
    have HLEN := Lib.hid hlen
    have hz : ((ls.length : Int) == ls'.length) = true := beq_iff_eq.2 (by omega)
    clear hlen
    go_enter Try.func43, Try.ntmps43
    go_upto_region 3 with (fail)
    clear hz
    try (rename (((ls.length : Int) != (ls'.length : Int)) = false) => hbad; clear hbad)
    go_wp2
    go_loopw [5] (fun c wr => ∃ i : Nat, i ≤ ls.length ∧ c = .int .i64 i ∧ Hid (Keeps w wr) ∧ Hid (∀ j, j < i → ls.getD j [] = ls'.getD j [])) (fun c _ => (ls.length - intOf c).toNat)
    case atStart => exact ⟨0, by omega, rfl, Lib.hid (Keeps.refl _), Lib.hid (fun j hj => by omega)⟩
    case round =>
      obtain ⟨i, hi, rfl, HK, HE⟩ := hrel
      by_cases hlt : i < ls.length
      · obtain ⟨g, off, u, rfl, hg, hcell, hu⟩ := (H1.out.keeps HK.out).at i hlt
        obtain ⟨g', off', u', rfl, hg', hcell', hu'⟩ := (H2.out.keeps HK.out).at i (by rw [← HLEN.out]; exact hlt)
        have hlt' : i < ls'.length := by rw [← HLEN.out]; exact hlt
        have HU := Lib.hid hu; have HU' := Lib.hid hu'
        clear hu hu'
        go_upto_region 6 with (fail)
        refine wp_region_quiet_tail 8 (by kernel_rfl) (by kernel_rfl) ?_
        simp only [List.take_succ_cons, List.take_zero, List.drop_succ_cons, List.drop_zero]
        repeat (first | go_big_quiet_step (fail) | quiet_step (fail))
        refine wpQuiet_nil ?_
        intro _ hw'
        obtain ⟨nq, hw''⟩ := hw'
        subst hw''
        have hq := Lib.hid (requal_any (HU.out.keeps (Qt.drewN wr nq).keeps) (HU'.out.keeps (Qt.drewN wr nq).keeps))
        by_cases e : ls.getD i [] = ls'.getD i []
        · rw [decide_eq_true e] at hq
          have HE2 := Lib.hid e
          clear e
          go_wp2_with (go_at_call 29; refine hq.out.mono ?_; rintro e W2 ⟨rfl, rfl⟩)
          go_roundw
          case rel =>
            refine ⟨i + 1, by omega, by go_num, Lib.hid (HK.out.trans (Qt.drewN wr nq).keeps), Lib.hid fun j hj => ?_⟩
            by_cases hji : j = i
            · subst hji; exact HE2.out
            · exact HE.out j (by omega)
          case measure => simp [intOf]; omega
        · rw [decide_eq_false e] at hq
          have hne : R = false := by rw [HR.out]; exact decide_eq_false (fun h => e (by rw [h]))
          subst hne
          clear e
          go_wp2_with (go_at_call 29; refine hq.out.mono ?_; rintro e W2 ⟨rfl, rfl⟩)
          go_ret
          exact ⟨by first | rfl | exact ret_bool (by simp), HK.out.trans (Qt.drewN wr nq).keeps⟩
      · have hall : R = true := by
          rw [HR.out]
          refine decide_eq_true (List.ext_getElem HLEN.out fun j h1 h2 => ?_)
          have := HE.out j (by omega)
          simpa [List.getD, h1, h2] using this
        subst hall
        go_wp2
        go_ret
        exact ⟨by first | rfl | exact ret_bool (by simp), HK.out⟩
end Go.Proofs.Ytjfkkdkmpnpmpaa
