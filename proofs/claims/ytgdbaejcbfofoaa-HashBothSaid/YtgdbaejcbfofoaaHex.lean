/- The reference's Digit and Text: a digest's bytes from the last on, two small hexadecimal digits each. -/
import Derived.Test.YtgdbaejcbfofoaaText
import Derived.Test.YtgdbaejcbfofoaaOwn
import Derived.Laws.IdiomStrings
import Derived.Deep.RegionHeld3
import Derived.Test.YtgdbaejcbfofoaaSumHash
namespace Go.Proofs.Ytgdbaejcbfofoaa
set_option linter.unusedVariables false
set_option linter.unusedSimpArgs false
open Go Go.RowKit

theorem digit_any (n : Int) (h0 : 0 ≤ n) (h1 : n < 16) (w : World) : Calls Try.prog 68 #[.int .u8 n] w fun e w' => e = .returned (.int .u8 (dig n)) ∧ w = w' := by
  by_cases h : n < 10
  · have hd : dig n = 48 + n := by unfold dig; rw [if_pos h]
    rw [hd]
    go_enter Try.func68, Try.ntmps68
    go_wp2
    go_ret
    exact ⟨ret_int (by omega), rfl⟩
  · have hd : dig n = 87 + n := by unfold dig; rw [if_neg h]
    rw [hd]
    go_enter Try.func68, Try.ntmps68
    go_wp2
    go_ret
    exact ⟨ret_int (by omega), rfl⟩
/-- two bytes more -/
theorem own_append2 {w W : World} {ops : Array Oper} {rest : List Oper} {o : Oper} {a : Act} {Q : Exit → Act → World → Prop} (hgd : o.guard = none) (s x : Operand)
    (ho : o.op = .call { callee := .builtin .append, args := #[s, x], argTypes := #[22, 22] }) {v : Value} {n : Nat} {l : List Int} (hO : Own w W v n l) (hv : a.eval s = v)
    (c : Nat) (k1 k2 : Int) (T : TypeId) (hx : a.eval x = .slice (some ⟨W.heap.size, 0, none⟩) 2 c) (hn : n + 2 ≤ 140737488355328)
    (h : ∀ v' w', Own w w' v' (n + 2) (l ++ [k1, k2]) → Grown W w' v v' → wpList Try.prog ops Q rest (a.put o.dst v') w') : wpList Try.prog ops Q (o :: rest) a (W.alloc (.cells #[.int .u8 k1, .int .u8 k2] T)) :=
  own_append hgd s x ho hO ((Keeps.refl W).alloc (Nat.le_refl _) _) hv _ hx 2 [k1, k2] (Src.row Try.underlying22 (by simp) (Row.new [.int .u8 k1, .int .u8 k2] _ T rfl) (int_oneCell [k1, k2])) (by omega) (fun v' w' h1 h2 => h v' w' h1 (h2.keeps ((Keeps.refl W).alloc (Nat.le_refl _) _)))
/-- two bytes more, in a region that draws its order -/
theorem wp_append2 {w W : World} {o : Oper} {a : Act} {K : Act → World → Prop} {Q : Exit → Act → World → Prop} (s x : Operand)
    (ho : o.op = .call { callee := .builtin .append, args := #[s, x], argTypes := #[22, 22] }) {v : Value} {n : Nat} {l : List Int} (hO : Own w W v n l) (hv : a.eval s = v)
    (c : Nat) (k1 k2 : Int) (T : TypeId) (hx : a.eval x = .slice (some ⟨W.heap.size, 0, none⟩) 2 c) (hn : n + 2 ≤ 140737488355328)
    (h : ∀ v' w', Own w w' v' (n + 2) (l ++ [k1, k2]) → K (a.put o.dst v') w') : o.wp Try.prog a (W.alloc (.cells #[.int .u8 k1, .int .u8 k2] T)) K Q := by
  obtain ⟨i0, hi, hz0, hz1, hz2⟩ := info_parts u8_info
  have hk : Keeps W (W.alloc (.cells #[.int .u8 k1, .int .u8 k2] T)) := (Keeps.refl W).alloc (Nat.le_refl _) _
  have hs : Src Try.prog 1 22 (.slice (some ⟨W.heap.size, 0, none⟩) 2 c) 2 (([k1, k2] : List Int).map (Value.int .u8)) (W.alloc (.cells #[.int .u8 k1, .int .u8 k2] T)) :=
    Src.row Try.underlying22 (by simp) (Row.new [.int .u8 k1, .int .u8 k2] _ T rfl) (int_oneCell [k1, k2])
  obtain ⟨v', w', hr, hb, hc, hs', _⟩ := run_append_buf (P := Try.prog) _ 22 22 o.type 5 i0 (.int .u8 0) 1 1 Try.underlying22 hi hz0 hz1 hz2 rfl (by decide) v n _ (hO.buf.keeps hk) _ 2 _ hs (by unfold maxLen; omega) (by omega)
  unfold Oper.wp
  subst hv
  simp [execOp, ho, resolve, invoke, builtin, hx, hr, Result.andThen]
  exact h _ _ (hO.after hk hb hc hs')
/-- the digits of the last k bytes -/
def textI (zs : List Int) (k : Nat) : List Int := (List.range k).flatMap fun j => [dig (zs.getD (zs.length - 1 - j) 0 / 16), dig (zs.getD (zs.length - 1 - j) 0 % 16)]
theorem textI_succ (zs : List Int) (k : Nat) : textI zs (k + 1) = textI zs k ++ [dig (zs.getD (zs.length - 1 - k) 0 / 16), dig (zs.getD (zs.length - 1 - k) 0 % 16)] := by
  simp [textI, List.range_succ]
theorem textI_length (zs : List Int) (k : Nat) : (textI zs k).length = 2 * k := by
  induction k with
  | zero => rfl
  | succ k ih => rw [textI_succ, List.length_append, ih]; simp; omega
theorem textI_textB {zs : List Int} (h : Bytes zs) : textI zs zs.length = (textB zs).map fun b => (b.toNat : Int) := by
  simp only [textI, textB, List.map_flatMap]
  congr 1
  funext j
  have hb := h.getD (zs.length - 1 - j)
  simp only [List.map_cons, List.map_nil]
  rw [digU_nat _ (by have := hb.1; omega) (by have := hb.2; omega), digU_nat _ (by omega) (by omega)]
set_option maxRecDepth 100000 in
set_option maxHeartbeats 1000000 in
theorem refText_any (zs : List Int) (hz : Bytes zs) (hl : zs.length = 32) (w : World) : Calls Try.prog 23 #[.agg (zs.map (Value.int .u8)).toArray] w fun e w' => e = .returned (.string ⟨(textB zs).toArray⟩) ∧ Keeps w w' := by
  have HZ := Lib.hid hz; have HL := Lib.hid hl
  have Z32 : ((Try.prog.info? 36).map (·.size)) = some 32 := by kernel_rfl
  go_enter Try.func23, Try.ntmps23
  go_upto_region 1 with (fail)
  obtain ⟨q, hq⟩ : ∃ q, q = w.heap.size := ⟨_, rfl⟩
  have hk0 : Keeps w (w.alloc (.cells (zs.map (Value.int .u8)).toArray 36)) := (Keeps.refl w).alloc (Nat.le_refl _) _
  have hr0 : Row (w.alloc (.cells (zs.map (Value.int .u8)).toArray 36)) q 0 (zs.map (Value.int .u8)) := by rw [hq]; exact Row.new _ _ _ rfl
  rw [← hq]
  clear hq
  refine wp_gen (fun W => Keeps w W ∧ Row W q 0 (zs.map (Value.int .u8))) ⟨hk0, hr0⟩ ?_
  clear hk0 hr0
  intro W0 ⟨hk0, hr0⟩
  have HK0 := Lib.hid hk0; have HR0 := Lib.hid hr0
  clear hk0 hr0
  go_wp2
  go_loopw [3, 4] (fun c3 c4 wr => ∃ k : Nat, ((k = 32 ∧ c4 = .int .i64 (-1)) ∨ (∃ r : Nat, k + r + 1 = 32 ∧ c4 = .int .i64 r)) ∧ Own W0 wr c3 (2 * k) (textI zs k)) (fun _ c4 _ => (intOf c4 + 1).toNat)
  case atStart => exact ⟨0, .inr ⟨31, by omega, rfl⟩, Own.nil _⟩
  case round =>
    obtain ⟨k, hk, hO⟩ := hrel
    obtain ⟨oa, oc, rfl⟩ := hO.any
    have HO := Lib.hid hO
    clear hO
    rcases hk with ⟨rfl, rfl⟩ | ⟨r, hkr, rfl⟩
    · have htx := textI_textB HZ.out
      rw [HL.out] at htx
      rw [htx] at HO
      have hlb : (textB zs).length = 64 := by have := congrArg List.length htx; rw [textI_length, List.length_map] at this; omega
      obtain ⟨g, off, cap, e2, _, _, _, hrow⟩ := HO.out.buf.form (.inr (by omega))
      cases e2
      have hcv := run_convert_bytes_back (P := Try.prog) wr 22 9 5 ⟨g, off, none⟩ oc (textB zs) Try.underlying22 Try.underlying5 Try.underlying9 (fun j hj => by
        have hadd : (⟨g, off, none⟩ : Addr).add j = ⟨g, off + j, none⟩ := by unfold Addr.add; split <;> simp_all
        rw [hadd]
        refine (hrow j _ ?_).1
        simp [hj])
      rw [hlb] at hcv
      have HK := Lib.hid HO.out.keeps
      clear hrow htx HO
      go_wp2
      go_ret
      exact ⟨rfl, HK0.out.trans HK.out⟩
    · have hcr := (HR0.out.keeps HO.out.keeps).int0 r (by have := HL.out; omega)
      have hb := HZ.out.getD r
      have hs := textI_succ zs k
      rw [show zs.length - 1 - k = r by have := HL.out; omega] at hs
      have HS := Lib.hid hs
      clear hs
      have hyy : ∃ y, zs.getD r 0 = y := ⟨_, rfl⟩
      obtain ⟨y, hye⟩ := hyy
      rw [hye] at hcr hb HS
      have HYE := Lib.hid hye; have HRY := HR0
      clear hye
      obtain ⟨y0, y1⟩ := hb
      have hr32 : (r : Int) < 32 := by omega
      have hq1 : IntKind.u8.wrap (y.tdiv 16) = y / 16 := by rw [Int.tdiv_eq_ediv_of_nonneg y0, IntKind.wrap_u8]; omega
      have hq3 : y.tmod 16 = y % 16 := Int.tmod_eq_emod_of_nonneg y0
      have hq4 : IntKind.u8.wrap (y % 16) = y % 16 := by rw [IntKind.wrap_u8]; omega
      have hq2 : IntKind.u8.wrap (y.tmod 16) = y % 16 := by rw [Int.tmod_eq_emod_of_nonneg y0, IntKind.wrap_u8]; omega
      go_wp2
      have hcell : ∀ W, Keeps W0 W → W.cell? ⟨q, r, none⟩ = some (.int .u8 y) := fun W hk => by
        have := ((HRY.out).keeps hk).int0 r (by have := HL.out; omega)
        rwa [HYE.out] at this
      have HC := Lib.hid hcell
      clear hcell
      go_region_held3 (fun W => W.cell? ⟨q, r, none⟩ = some (.int .u8 y)) (first | exact HC.out _ (keeps_drew HO.out.keeps) | exact HC.out _ (keeps_alloc (keeps_drew HO.out.keeps) _) | exact HC.out _ HO2.out.keeps)
        (first
          | (go_at_call 68; refine (digit_any _ (by omega) (by omega) _).mono ?_; rintro e w' ⟨rfl, rfl⟩)
          | (refine wp_append2 _ _ rfl (HO.out.step (keeps_drew (Keeps.refl _))) rfl 2 _ _ _ rfl (by omega) ?_; intro v1 w1 hO1; have HO2 := Lib.hid hO1; clear hO1))
      have HO3 := HO2.out
      rw [← HS.out] at HO3
      have HO4 := Lib.hid HO3
      clear HO3 HO2 HO
      go_wp2
      go_roundw
      case rel =>
        refine ⟨k + 1, ?_, HO4.out⟩
        cases r with
        | zero => exact .inl ⟨by omega, by simp⟩
        | succ r => exact .inr ⟨r, by omega, by congr 1; omega⟩
      case measure => simp [intOf]
end Go.Proofs.Ytgdbaejcbfofoaa
