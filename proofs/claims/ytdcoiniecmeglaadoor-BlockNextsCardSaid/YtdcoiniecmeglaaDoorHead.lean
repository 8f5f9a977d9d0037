/- block.EncodeHeader: a head as bytes. -/
import Derived.Test.YtdcoiniecmeglaaDoorWire
import Derived.Test.YtdcoiniecmeglaaDoorNumTgt
namespace Go.Proofs.YtdcoiniecmeglaaDoor
set_option linter.unusedVariables false
set_option linter.unusedSimpArgs false
open Go Go.RowKit

/-- the cells of a head -/
def headCells (ver : Int) (prev merkle : List Int) (t b n : Int) : List Value :=
  Value.int .i32 ver :: (prev.map (Value.int .u8) ++ (merkle.map (Value.int .u8) ++ [.int .u32 t, .int .u32 b, .int .u32 n]))
theorem headCells_ver (ver : Int) (prev merkle : List Int) (t b n : Int) : (headCells ver prev merkle t b n)[0]? = some (.int .i32 ver) := rfl
theorem headCells_at (ver : Int) (prev merkle : List Int) (t b n : Int) (hp : prev.length = 32) (hm : merkle.length = 32) :
    (headCells ver prev merkle t b n)[65]? = some (.int .u32 t) ∧ (headCells ver prev merkle t b n)[66]? = some (.int .u32 b) ∧ (headCells ver prev merkle t b n)[67]? = some (.int .u32 n) := by
  unfold headCells
  simp only [List.getElem?_cons_succ]
  refine ⟨?_, ?_, ?_⟩ <;> rw [List.getElem?_append_right (by simp [hp]), List.getElem?_append_right (by simp [hp, hm])] <;> simp [hp, hm]
theorem headCells_prev (ver : Int) (prev merkle : List Int) (t b n : Int) (hp : prev.length = 32) : ((headCells ver prev merkle t b n).drop 1).take 32 = prev.map (Value.int .u8) := by
  unfold headCells
  simp [hp]
theorem headCells_merkle (ver : Int) (prev merkle : List Int) (t b n : Int) (hp : prev.length = 32) (hm : merkle.length = 32) : ((headCells ver prev merkle t b n).drop 33).take 32 = merkle.map (Value.int .u8) := by
  unfold headCells
  rw [List.drop_succ_cons, List.drop_append_of_le_length (by simp [hp]), List.drop_eq_nil_of_le (by simp [hp])]
  simp [hm]
/-- a head's bytes -/
def headB (ver : Int) (prev merkle : List Int) (t b n : Int) : List Int := leB (ver % 4294967296) 4 ++ prev ++ merkle ++ leB t 4 ++ leB b 4 ++ leB n 4
def U32 (x : Int) : Prop := 0 ≤ x ∧ x < 4294967296
theorem headB_eq (ver : Int) (prev merkle : List Int) (t b n : Int) : headB ver prev merkle t b n = [] ++ leB (ver % 4294967296) 4 ++ prev ++ merkle ++ leB t 4 ++ leB b 4 ++ leB n 4 := rfl
theorem Own.from' {w W W' : World} {v : Value} {n : Nat} {l : List Int} (h : Own W W' v n l) (hk : Keeps w W) : Own w W' v n l := ⟨hk.trans h.keeps, h.buf, fun g hg => Nat.le_trans hk.size (h.new g hg)⟩
theorem Row.rd {w : World} {g off : Nat} {vs : List Value} (h : Row w g off vs) (i n : Nat) (xs : List Value) (e : (vs.drop i).take n = xs) (hl : xs.length = n) (hn : 0 < n) (hb : n ≤ 100) : Rd w 1 (.slice (some ⟨g, off + i, none⟩) n n) n xs := by
  have h2 := (h.drop i).take n
  rw [e] at h2
  exact Rd.of_row h2 (by omega) (h2.lt (by intro e; rw [e] at hl; simp at hl; omega)) (Nat.le_refl _) (by unfold maxLen; omega)
set_option maxRecDepth 100000 in
set_option maxHeartbeats 4000000 in
theorem encodeHeader_any (ver : Int) (prev merkle : List Int) (t b n : Int) (hp : prev.length = 32) (hm : merkle.length = 32) (ht : U32 t) (hb : U32 b) (hn : U32 n) (w : World) :
    Calls Tryd.prog 21 #[.agg (headCells ver prev merkle t b n).toArray] w fun e w' => ∃ v, e = .returned v ∧ Own w w' v 80 (headB ver prev merkle t b n) := by
  have hc0 := headCells_ver ver prev merkle t b n
  obtain ⟨hc1, hc2, hc3⟩ := headCells_at ver prev merkle t b n hp hm
  have hd1 := headCells_prev ver prev merkle t b n hp
  have hd2 := headCells_merkle ver prev merkle t b n hp hm
  generalize headCells ver prev merkle t b n = H at *
  have HC0 := Lib.hid hc0; have HC1 := Lib.hid hc1; have HC2 := Lib.hid hc2; have HC3 := Lib.hid hc3; have HD1 := Lib.hid hd1; have HD2 := Lib.hid hd2
  clear hc0 hc1 hc2 hc3 hd1 hd2
  have hver : IntKind.u32.wrap ver = ver % 4294967296 := by rw [IntKind.wrap_u32]
  have hv0 : 0 ≤ ver % 4294967296 := by omega
  have hv1 : ver % 4294967296 < 4294967296 := by omega
  have HBE := Lib.hid (headB_eq ver prev merkle t b n)
  generalize headB ver prev merkle t b n = HB at *
  go_enter Tryd.func21, Tryd.ntmps21
  go_upto_region 1 with (fail)
  refine wp_rows1 (fun W hk hr hs => ?_)
  obtain ⟨p, hp'⟩ : ∃ p, p = w.heap.size := ⟨_, rfl⟩
  rw [← hp'] at hr hs ⊢
  have HR := Lib.hid (show Row W p 0 H from hr); have HK := Lib.hid hk; have HS := Lib.hid hs
  clear hr hk hs hp'
  go_upto_region 2 with (fail)
  have hw0 : WrAt W (W.alloc (.cells #[.slice none 0 0] 72)) W.heap.size (.slice none 0 0) 0 [] := ⟨(Own.nil W).step (keeps_alloc (Keeps.refl _) _), Row.new _ _ _ rfl, Nat.le_refl _, by simp [Value.ownBlock]⟩
  obtain ⟨g, hg⟩ : ∃ g, g = W.heap.size := ⟨_, rfl⟩
  rw [← hg] at hw0 ⊢
  generalize W.alloc (.cells #[.slice none 0 0] 72) = W0 at *
  have HW0 := Lib.hid hw0
  have r0 := (HR.out.keeps hw0.own.keeps 0 _ HC0.out).1
  clear hw0 hg
  go_upto_region 3 with (go_at_call 38; refine (wu32_any W g _ _ _ (ver % 4294967296) hv0 hv1 (by omega) _ HW0.out).mono ?_; rintro e W1 ⟨rfl, v1, hv1', hg1⟩; have HW1 := Lib.hid hv1'; clear hv1' hg1)
  have rd1 : Rd W1 1 (.slice (some ⟨p, 1, none⟩) 32 32) 32 (prev.map (Value.int .u8)) := by
    have := (HR.out.keeps HW1.out.own.keeps).rd 1 32 _ HD1.out (by simp [hp]) (by omega) (by omega)
    rwa [Nat.zero_add] at this
  have RD1 := Lib.hid rd1
  clear rd1
  go_upto_region 4 with (go_at_call 39; refine (wraw_any W g _ _ _ _ 32 prev (by omega) _ HW1.out RD1.out).mono ?_; rintro e W2 ⟨rfl, v2, hv2', hg2⟩; have HW2 := Lib.hid hv2'; clear hv2' hg2)
  have rd2 : Rd W2 1 (.slice (some ⟨p, 33, none⟩) 32 32) 32 (merkle.map (Value.int .u8)) := by
    have := (HR.out.keeps HW2.out.own.keeps).rd 33 32 _ HD2.out (by simp [hm]) (by omega) (by omega)
    rwa [Nat.zero_add] at this
  have RD2 := Lib.hid rd2
  clear rd2
  go_upto_region 5 with (go_at_call 39; refine (wraw_any W g _ _ _ _ 32 merkle (by omega) _ HW2.out RD2.out).mono ?_; rintro e W3 ⟨rfl, v3, hv3', hg3⟩; have HW3 := Lib.hid hv3'; clear hv3' hg3)
  have r3 := (HR.out.keeps HW3.out.own.keeps 65 _ HC1.out).1
  rw [Nat.zero_add] at r3
  go_upto_region 6 with (go_at_call 38; refine (wu32_any W g _ _ _ t ht.1 ht.2 (by omega) _ HW3.out).mono ?_; rintro e W4 ⟨rfl, v4, hv4', hg4⟩; have HW4 := Lib.hid hv4'; clear hv4' hg4)
  have r4 := (HR.out.keeps HW4.out.own.keeps 66 _ HC2.out).1
  rw [Nat.zero_add] at r4
  go_upto_region 7 with (go_at_call 38; refine (wu32_any W g _ _ _ b hb.1 hb.2 (by omega) _ HW4.out).mono ?_; rintro e W5 ⟨rfl, v5, hv5', hg5⟩; have HW5 := Lib.hid hv5'; clear hv5' hg5)
  have r5 := (HR.out.keeps HW5.out.own.keeps 67 _ HC3.out).1
  rw [Nat.zero_add] at r5
  go_upto_region 8 with (go_at_call 38; refine (wu32_any W g _ _ _ n hn.1 hn.2 (by omega) _ HW5.out).mono ?_; rintro e W6 ⟨rfl, v6, hv6', hg6⟩; have HW6 := Lib.hid hv6'; clear hv6' hg6)
  go_wp2_with (go_at_call 40; refine (wout_any W g _ _ _ (by omega) _ HW6.out).mono ?_; rintro e W7 ⟨v7, rfl, hv7⟩; have HW7 := Lib.hid hv7; clear hv7)
  go_ret
  refine ⟨_, rfl, ?_⟩
  have hfin := HW7.out.from' (HK.out.trans HW6.out.own.keeps)
  rw [HBE.out]
  exact hfin
end Go.Proofs.YtdcoiniecmeglaaDoor
