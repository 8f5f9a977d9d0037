/- tx.Check. -/
import Derived.Test.YtcodpdpeklammaaGD4
namespace Go.Proofs.Ytcodpdpeklammaa
set_option linter.unusedVariables false
set_option linter.unusedSimpArgs false
open Go Go.RowKit

theorem laidOutC : laidOutB Try.prog = true := by kernel_rfl
theorem ptKeyed : Maps.Keyed Try.prog 42 := Maps.Keyed.of_law (deep_law_laid laidOutC (m := 4) (by omega) (of_decide_eq_true (by kernel_rfl)) (by kernel_rfl) (by kernel_rfl))
theorem zero_bool (w : World) : (zeroValue 4).run Try.prog w = .ok (.bool false) w := by
  have h : (Try.prog.info? 4).map (·.zero) = some (some (.bool false)) := by kernel_rfl
  cases hq : Try.prog.info? 4 with
  | none => simp [hq] at h
  | some i => simp [hq] at h; simp [zeroValue, typeInfo, hq, h]
theorem plainElem_bool_inv {e : TypeId} (he : Try.prog.underlying e = some .bool) {v : Value} {b : Bool} {ps : List MemPlace} (h : plainElem (H := Unit) Try.prog e v = some (.lit (.bool b), ps)) : v = .bool b := by
  unfold plainElem at h
  rw [he] at h
  cases v <;> simp at h
  rw [h.1]
theorem wpList_find_bool {k e : TypeId} {w w0 : World} {ops : Array Oper} {rest : List Oper} {o : Oper} {a : Act} {Q : Exit → Act → World → Prop} (hg : o.guard = none) (m x : Operand) (t : TypeId) (hop : o.op = Op.lookup t m x false)
    (K : Maps.Keyed Try.prog k) (ht : Try.prog.underlying t = some (.map k e)) (he : Try.prog.underlying e = some .bool) {b n : Nat} {D : DataW Unit} (hown : OMap k e w0 w b n D) (hz : (zeroValue e).run Try.prog w = .ok (.bool false) w) (hm : a.eval m = .map (some b)) (key : Value) (kl : Lit) (hx : a.eval x = key) (hkey : keyOf Try.prog k key = some kl)
    (c : Bool) (hc : D.atKey kl (.lit (.bool false)) = .lit (.bool c)) (hK : wpList Try.prog ops Q rest (a.put o.dst (.bool c)) w) : wpList Try.prog ops Q (o :: rest) a w := by
  refine wpList_plain hg fun K' hK' => ?_
  obtain ⟨v, ps, hrun, hv⟩ := hown.own.lookup K ht hz (plainElem_bool he false) hkey
  rw [hc] at hv
  obtain rfl := plainElem_bool_inv he hv
  unfold Oper.wp
  simp [execOp, hop, hm, hx, hrun, Result.andThen]
  exact hK' _ _ hK
/-- the map D tells of each place whether one of l spends it -/
def Seen (D : DataW Unit) (l : List InD) : Prop := Maps.IsMap D ∧ ∀ (h : List Int) (x : Int), h.length = 32 → Bytes h → U32 x → ∃ b : Bool, D.atKey (keyL h x) (.lit (.bool false)) = .lit (.bool b) ∧ (b = true ↔ ∃ a ∈ l, a.hash = h ∧ a.index = x)
theorem Seen.nil : Seen (.map []) [] := ⟨⟨[], rfl⟩, fun h x _ _ _ => ⟨false, rfl, by simp⟩⟩
theorem Seen.put {D : DataW Unit} {l : List InD} {d : InD} (h : Seen D l) (hl : ∀ a ∈ l, a.Ok) (hd : d.Ok) (hm : Maps.IsMap (D.put (keyL d.hash d.index) (.lit (.bool true)))) : Seen (D.put (keyL d.hash d.index) (.lit (.bool true))) (l ++ [d]) := by
  refine ⟨hm, fun hh x h1 h2 h3 => ?_⟩
  by_cases e : keyL hh x = keyL d.hash d.index
  · refine ⟨true, ?_, ?_⟩
    · rw [e, Maps.atKey_put_same h.1 (by unfold keyL; first | trivial | (unfold WideAt.IsKeyLit; trivial) | simp [WideAt.IsKeyLit])]
    · obtain ⟨e1, e2⟩ := keyL_inj h1 h2 h3 hd.hashLen hd.hash hd.index e
      exact ⟨fun _ => ⟨d, by simp, e1.symm, e2.symm⟩, fun _ => rfl⟩
  · obtain ⟨b, hb, hiff⟩ := h.2 hh x h1 h2 h3
    refine ⟨b, ?_, ?_⟩
    · rw [Maps.atKey_put_other e]; exact hb
    · rw [hiff]
      constructor
      · rintro ⟨a, ha, r⟩; exact ⟨a, by simp [ha], r⟩
      · rintro ⟨a, ha, r1, r2⟩
        rcases List.mem_append.1 ha with ha | ha
        · exact ⟨a, ha, r1, r2⟩
        · simp at ha; subst ha; exact absurd (by rw [r1, r2]) e
/-- no two of the first i spend the same -/
def NoDup (l : List InD) (i : Nat) : Prop := ∀ (m k : Nat) (a b : InD), m < i → k < m → l[m]? = some a → l[k]? = some b → ¬ SamePt a b
set_option maxRecDepth 100000 in
set_option maxHeartbeats 4000000 in
theorem check_any (S T R : Nat → Prop) (d : TxD) (iv ov : Value) (hf : Fits d) (w : World) (h : RTx S T R w iv ov d) (hS : ∀ g, S g → g < w.heap.size) :
    Calls Try.prog 16 #[.agg #[.int .i32 d.ver, iv, ov, .int .u32 d.lock]] w fun e w' => ∃ r : Int, e = .returned (.int .i64 r) ∧ Chk d r ∧ Keeps w w' := by
  have HT := Lib.hid h; have HI := Lib.hid h.ins; have HOU := Lib.hid h.outs; have HS := Lib.hid hS
  obtain ⟨ia, ic, rfl, hic, hicm, -⟩ := h.ins.any
  obtain ⟨oa, oc, rfl, hoc, hocm, -⟩ := h.outs.any
  have hism : d.ins.length * 96 ≤ 140737488355328 := by obtain ⟨_, _, h⟩ := h.ins; exact h.small
  have hosm : d.outs.length * 32 ≤ 140737488355328 := by obtain ⟨_, _, h⟩ := h.outs; exact h.small
  clear h hS
  have HENC := Lib.hid (fun W (hk : Keeps w W) => enc_any S T R d _ _ false hf W (HT.out.keeps hk) (fun g hg => Nat.lt_of_lt_of_le (HS.out g hg) hk.size))
  have HCB := Lib.hid (fun W (hk : Keeps w W) => coinbase_any S T R d _ _ W (HT.out.keeps hk))
  obtain ⟨CHK, hchk⟩ : ∃ C : Int → Prop, C = Chk d := ⟨_, rfl⟩
  rw [← hchk]
  have HCHK := Lib.hid hchk
  clear hchk
  by_cases hA : d.ins.length = 0 ∨ d.outs.length = 0
  · have hr : CHK 3 := by rw [HCHK.out]; exact ⟨fun _ => rfl, fun h => absurd hA h⟩
    have hsp : d.ins.length = 0 ∨ (¬ d.ins.length = 0 ∧ d.outs.length = 0) := by omega
    clear hA
    rcases hsp with h1 | ⟨h1, h2⟩
    all_goals
      have hz1 : ((d.ins.length : Int) = 0) ∨ ¬ ((d.ins.length : Int) = 0) := by omega
      go_enter Try.func16, Try.ntmps16
      go_upto_region 1 with (fail)
      refine wp_rows1 (fun W0 hk hr1 hs1 => ?_)
      simp only at hr1
      obtain ⟨b0, b1, b2, b3⟩ := hr1.cell4
      have HK := Lib.hid hk
      clear hk hr1 hs1
      go_wp2
      all_goals go_ret
      all_goals exact ⟨_, rfl, hr, HK.out⟩
  · have hi0 : ¬ d.ins.length = 0 := by omega
    have ho0 : ¬ d.outs.length = 0 := by omega
    have hz1 : ((d.ins.length : Int) == 0) = false := beq_eq_false_iff_ne.2 (by omega)
    have hz2 : ((d.outs.length : Int) == 0) = false := beq_eq_false_iff_ne.2 (by omega)
    have HA := Lib.hid hA
    clear hA
    by_cases hB : 100000 < (encB d false).length
    · have hr : CHK 2 := by rw [HCHK.out]; exact ⟨fun h => absurd h HA.out, fun _ => ⟨fun _ => rfl, fun h => absurd hB h⟩⟩
      generalize encB d false = EB at *
      go_enter Try.func16, Try.ntmps16
      go_upto_region 1 with (fail)
      refine wp_rows1 (fun W0 hk hr1 hs1 => ?_)
      simp only at hr1
      obtain ⟨b0, b1, b2, b3⟩ := hr1.cell4
      have HK := Lib.hid hk
      clear hk hr1 hs1
      go_wp2_with (go_at_call 6; refine (HENC.out _ HK.out).mono ?_; rintro e W2 ⟨v2, rfl, hO2⟩; obtain ⟨a2, c2, rfl⟩ := hO2.any; have HO2 := Lib.hid hO2; clear hO2)
      go_ret
      exact ⟨_, rfl, hr, HK.out.trans HO2.out.keeps⟩
    · have HB := Lib.hid hB
      have hEB : (encB d false).length ≤ 100000 := by omega
      clear hB
      have HCH2 := Lib.hid (fun (r : Int) (h : ((addGo 0 (d.outs.map (·.value))).2 ≠ 0 → r = 6) ∧ ((addGo 0 (d.outs.map (·.value))).2 = 0 →
        (Dup d.ins → r = 18) ∧ (¬ Dup d.ins →
          (cbD d = true → (BadSize d → r = 3) ∧ (¬ BadSize d → r = 0)) ∧ (cbD d = false → (AnyEmpty d → r = 7) ∧ (¬ AnyEmpty d → r = 0))))) => show CHK r by rw [HCHK.out]; exact ⟨fun h => absurd h HA.out, fun _ => ⟨fun h => absurd h HB.out, fun _ => h⟩⟩)
      clear HA HB HCHK
      generalize encB d false = EB at *
      go_enter Try.func16, Try.ntmps16
      go_upto_region 1 with (fail)
      refine wp_rows1 (fun W0 hk hr1 hs1 => ?_)
      simp only at hr1
      have HK := Lib.hid hk; have HR := Lib.hid hr1
      obtain ⟨b0, b1, b2, b3⟩ := hr1.cell4
      clear hk hr1 hs1
      generalize w.heap.size = p at *
      go_upto_region 6 with (go_at_call 6; refine (HENC.out _ HK.out).mono ?_; rintro e W2 ⟨v2, rfl, hO2⟩; obtain ⟨a2, c2, rfl⟩ := hO2.any; have HO2 := Lib.hid hO2; clear hO2)
      clear b0 b1 b2 b3
      have hcell : ∀ W, Keeps W0 W → W.cell? ⟨p, 0, none⟩ = some (.int .i32 d.ver) ∧ W.cell? ⟨p, 1, none⟩ = some (.slice ia d.ins.length ic) ∧ W.cell? ⟨p, 2, none⟩ = some (.slice oa d.outs.length oc) ∧ W.cell? ⟨p, 3, none⟩ = some (.int .u32 d.lock) := fun W hk => (HR.out.keeps hk).cell4
      have HCE := Lib.hid hcell
      clear hcell
      obtain ⟨b0, b1, b2, b3⟩ := HCE.out _ HO2.out.keeps
      go_wp2
      go_loopw [3, 29] (fun vv c wr => ∃ i : Nat, i ≤ d.outs.length ∧ c = .int .i64 i ∧ OwnZ W0 wr vv ((d.outs.take i).map (·.value))) (fun _ c _ => (d.outs.length - intOf c).toNat)
      case atStart => exact ⟨0, by omega, rfl, (OwnZ.nil W0).step HO2.out.keeps⟩
      case round =>
        obtain ⟨i, hi, rfl, hown⟩ := hrel
        by_cases hlt : i < d.outs.length
        · obtain ⟨g, off, sv, di, rfl, hg, hdi, hrow, hrb, hi64⟩ := (HOU.out.keeps HK.out).at i hlt
          have hstep : (d.outs.take (i + 1)).map (·.value) = (d.outs.take i).map (·.value) ++ [di.value] := by rw [List.take_add_one, hdi]; simp
          have hll : ((d.outs.take i).map (·.value)).length = i := by simp; omega
          have HSTEP := Lib.hid hstep; have HROW := Lib.hid hrow; have HV := Lib.hid hown; have HLL := Lib.hid hll
          obtain ⟨sa, sc, rfl, -⟩ := hrb.any
          obtain ⟨va, vc, hve⟩ := hown.any
          subst hve
          have hoi2 : (i + 1) * 8 ≤ 140737488355328 := by omega
          clear hown hrow hrb hstep hll
          generalize (d.outs.take i).map (·.value) = VL at *
          go_upto_region 9 with (first | (refine wpList_load_at rfl 47 (.tmp 31) rfl g (off + i * 2) rfl _ _ (HROW.out.keeps HV.out.keeps) Try.underlying47 rfl (sz_out _ _) ?_) | (refine wpList_store_row rfl 47 (.tmp 5) (.tmp 32) rfl _ 0 rfl [.int .i64 0, .slice none 0 0] (outCells di _) rfl (Row.new _ _ _ rfl) rfl (sz_out _ _) (outCells_one _ _ rfl) ?_; intro W7 hr7 hc7; have HR7 := Lib.hid hr7; have HC7 := Lib.hid hc7; clear hr7 hc7))
          have hk7 : Keeps wr W7 := keeps_chg (keeps_alloc (Keeps.refl _) _) HC7.out (Nat.le_refl _)
          have HK7 := Lib.hid hk7
          obtain ⟨e0, e1⟩ := at_value HR7.out
          clear hk7 HC7 e1
          go_wp2_with (refine ownz_append1 rfl _ _ rfl HV.out HK7.out rfl 1 di.value _ rfl (by rw [HLL.out]; exact hoi2) ?_; intro v9 w9 hO9; obtain ⟨a9, c9, rfl⟩ := hO9.any; have HO9 := Lib.hid hO9; clear hO9)
          go_roundw
          case rel => exact ⟨i + 1, by omega, by go_num, by have h9 := HO9.out; rw [List.length_append] at h9; rw [HSTEP.out]; exact h9⟩
          case measure => simp [intOf]; omega
        · obtain rfl : i = d.outs.length := by omega
          rw [List.take_length] at hown
          obtain ⟨va, vc, hve⟩ := hown.any
          subst hve
          have hll : (d.outs.map (·.value)).length = d.outs.length := by simp
          have hints := hown.ints
          have HADD := Lib.hid (add_any wr va vc (d.outs.map (·.value)).length (d.outs.map (·.value)) rfl hints (by rw [hll]; omega))
          have HV := Lib.hid hown
          have htwo := addGo_two 0 (d.outs.map (·.value))
          clear hown hints hll
          clear b0 b1 b2 b3
          obtain ⟨b0, b1, b2, b3⟩ := HCE.out _ HV.out.keeps
          generalize (addGo 0 (d.outs.map (·.value))).1 = SM at *
          generalize (addGo 0 (d.outs.map (·.value))).2 = ER at *
          generalize d.outs.map (·.value) = VL at *
          have HTWO := Lib.hid htwo
          clear htwo
          rcases HTWO.out with rfl | rfl
          rotate_left
          · have hr : CHK 6 := HCH2.out 6 ⟨fun _ => rfl, fun h => by omega⟩
            go_wp2_with (go_at_call 45; refine HADD.out.mono ?_; rintro e W6 ⟨rfl, rfl⟩)
            go_ret
            exact ⟨_, rfl, hr, HK.out.trans HV.out.keeps⟩
          · have HCH3 := Lib.hid (fun (r : Int) (h : (Dup d.ins → r = 18) ∧ (¬ Dup d.ins → (cbD d = true → (BadSize d → r = 3) ∧ (¬ BadSize d → r = 0)) ∧ (cbD d = false → (AnyEmpty d → r = 7) ∧ (¬ AnyEmpty d → r = 0)))) => HCH2.out r ⟨fun h => absurd rfl h, fun _ => h⟩)
            clear HCH2
            go_upto_region 14 with (go_at_call 45; refine HADD.out.mono ?_; rintro e W6 ⟨rfl, rfl⟩)
            generalize wr = wA at *
            go_upto_region 15 with (refine wpList_makeMap_own (k := 42) (e := 4) rfl 86 rfl HV.out.keeps ?_; intro w1 hm1; have HM1 := Lib.hid hm1; clear hm1)
            clear b0 b1 b2 b3
            obtain ⟨b0, b1, b2, b3⟩ := HCE.out _ HM1.out.keeps
            generalize wA.heap.size = mb at *
            go_wp2
            go_loopw [51] (fun c wr => ∃ i : Nat, i ≤ d.ins.length ∧ c = .int .i64 i ∧ ∃ m D, m ≤ i ∧ OMap 42 4 W0 wr mb m D ∧ Hid (Seen D (d.ins.take i)) ∧ Hid (NoDup d.ins i)) (fun c _ => (d.ins.length - intOf c).toNat)
            case atStart => exact ⟨0, by omega, rfl, 0, _, Nat.le_refl _, HM1.out, Lib.hid Seen.nil, Lib.hid (fun m k a b hm => by omega)⟩
            case round =>
              obtain ⟨i, hi, rfl, m, D, hmi, hmap, HSN, HND⟩ := hrel
              by_cases hlt2 : i < d.ins.length
              · obtain ⟨g, off, sv, wv, di, rfl, hg, hdi, hrow, hrin⟩ := (HI.out.keeps HK.out).at i hlt2
                have HOK := Lib.hid hrin.ok
                have hpt := first_pt hrow hrin.ok.hashLen
                obtain ⟨sb, hsb, hsiff⟩ := HSN.out.2 di.hash di.index hrin.ok.hashLen hrin.ok.hash hrin.ok.index
                have HROW := Lib.hid hrow; have HMAP := Lib.hid hmap; have HDI := Lib.hid hdi; have HSB := Lib.hid hsb; have HSIFF := Lib.hid hsiff
                obtain ⟨sa, sc, rfl, -⟩ := hrin.script.any
                obtain ⟨wa, wc, rfl, -⟩ := hrin.wit.any
                clear hrow hmap hdi hsb hsiff hrin hpt
                go_upto_region 18 with (first | (refine wpList_load_at rfl 45 (.tmp 53) rfl g (off + i * 36) rfl _ _ (HROW.out.keeps HMAP.out.keeps) Try.underlying45 rfl (sz_in _ _ _ HOK.out.hashLen) ?_) | (refine wpList_store_row rfl 45 (.tmp 10) (.tmp 54) rfl _ 0 rfl zeroIn (inCells di _ _) rfl (Row.new _ _ _ rfl) (by rw [inCells_length _ _ _ HOK.out.hashLen]; rfl) (sz_in _ _ _ HOK.out.hashLen) (inCells_one _ _ _ rfl rfl) ?_; intro W7 hr7 hc7; have HR7 := Lib.hid hr7; have HC7 := Lib.hid hc7; clear hr7 hc7))
                have hk7 : Keeps wr W7 := keeps_chg (keeps_alloc (Keeps.refl _) _) HC7.out (Nat.le_refl _)
                have hpt7 := first_pt HR7.out HOK.out.hashLen
                have HM7 := Lib.hid (HMAP.out.step hk7); have HPT := Lib.hid hpt7
                have HKEY := Lib.hid (keyOf_point di.hash di.index HOK.out.hashLen HOK.out.hash HOK.out.index)
                clear hk7 hpt7 HC7 HR7
                generalize wr.heap.size = p7 at *
                cases sb
                · go_wp2_with (first | (refine wpList_load_at rfl 42 (.tmp 56) rfl p7 0 rfl _ _ HPT.out Try.underlying42 rfl (sz_pt _ _ HOK.out.hashLen) ?_) | (refine wpList_load_at rfl 42 (.tmp 60) rfl p7 0 rfl _ _ HPT.out Try.underlying42 rfl (sz_pt _ _ HOK.out.hashLen) ?_) | (refine wpList_find_bool rfl _ _ 86 rfl ptKeyed Try.underlying86 Try.underlying4 HM7.out (zero_bool _) rfl _ _ rfl HKEY.out _ HSB.out ?_) | (refine wpList_insert_own rfl _ _ _ 86 (.inr rfl) ptKeyed Try.underlying86 HM7.out rfl (by unfold maxLen; omega) _ _ _ rfl rfl HKEY.out _ _ (plainElem_bool Try.underlying4 true) ?_; intro w8 hm8 hg8; have HM8 := Lib.hid hm8; clear hm8 hg8))
                  go_roundw
                  case rel =>
                    refine ⟨i + 1, by omega, by go_num, m + 1, _, by omega, HM8.out, Lib.hid ?_, Lib.hid ?_⟩
                    · have e1 : d.ins.take (i + 1) = d.ins.take i ++ [di] := by rw [List.take_add_one, HDI.out]; rfl
                      rw [e1]
                      refine HSN.out.put (fun a ha => ?_) HOK.out HM8.out.own.isMap
                      have ha2 := List.mem_of_mem_take ha
                      obtain ⟨k, hk, e⟩ := List.getElem_of_mem ha2
                      obtain ⟨g9, off9, sv9, wv9, d9, h1, _, h3, _, h5⟩ := (HI.out.keeps HK.out).at k hk
                      rw [List.getElem?_eq_getElem hk, e] at h3
                      cases h3
                      exact h5.ok
                    · intro m' k a b h1 h2 h3 h4 hsame
                      by_cases hmi2 : m' = i
                      · subst hmi2
                        rw [HDI.out] at h3
                        cases h3
                        have h6 : (false = true) := HSIFF.out.2 ⟨b, by
                          refine List.mem_of_getElem? (i := k) ?_
                          rw [List.getElem?_take, if_pos h2]; exact h4, hsame.1.symm, hsame.2.symm⟩
                        cases h6
                      · exact HND.out m' k a b (by omega) h2 h3 h4 hsame
                  case measure => simp [intOf]; omega
                · have hdup : Dup d.ins := by
                    obtain ⟨a, ha, e1, e2⟩ := HSIFF.out.1 rfl
                    obtain ⟨k, hk, e⟩ := List.getElem_of_mem ha
                    have hk2 : k < i := by simp at hk; omega
                    have e3 : d.ins[k]? = some a := by
                      have h5 : (d.ins.take i)[k]? = some a := by rw [List.getElem?_eq_getElem hk, e]
                      rw [List.getElem?_take] at h5
                      rwa [if_pos hk2] at h5
                    exact ⟨i, k, di, a, hk2, HDI.out, e3, e1.symm, e2.symm⟩
                  have hr : CHK 18 := HCH3.out 18 ⟨fun _ => rfl, fun h => absurd hdup h⟩
                  go_wp2_with (first | (refine wpList_load_at rfl 42 (.tmp 56) rfl p7 0 rfl _ _ HPT.out Try.underlying42 rfl (sz_pt _ _ HOK.out.hashLen) ?_) | (refine wpList_find_bool rfl _ _ 86 rfl ptKeyed Try.underlying86 Try.underlying4 HM7.out (zero_bool _) rfl _ _ rfl HKEY.out _ HSB.out ?_))
                  go_ret
                  exact ⟨_, rfl, hr, HK.out.trans HM7.out.keeps⟩
              · obtain rfl : i = d.ins.length := by omega
                have hnd : ¬ Dup d.ins := by
                  rintro ⟨i, k, a, b, h1, h2, h3, h4⟩
                  exact HND.out i k a b (List.getElem?_eq_some_iff.1 h2).1 h1 h2 h3 h4
                have HCH4 := Lib.hid (fun (r : Int) (h : (cbD d = true → (BadSize d → r = 3) ∧ (¬ BadSize d → r = 0)) ∧ (cbD d = false → (AnyEmpty d → r = 7) ∧ (¬ AnyEmpty d → r = 0))) => HCH3.out r ⟨fun h => absurd h hnd, fun _ => h⟩)
                clear HCH3 hnd
                rw [List.take_length] at HSN
                have HMAP := Lib.hid hmap
                clear hmap b0 b1 b2 b3
                obtain ⟨b0, b1, b2, b3⟩ := HCE.out _ HMAP.out.keeps
                cases hcb : cbD d
                · rw [hcb] at HCB
                  obtain ⟨sb, hsb, hsiff⟩ := HSN.out.2 zero32 4294967295 zero32_len zero32_bytes ⟨by omega, by omega⟩
                  have hany : sb = true ↔ AnyEmpty d := by
                    rw [hsiff]
                    constructor
                    · rintro ⟨a, ha, e1, e2⟩; exact ⟨a, ha, by unfold isEmptyD; exact decide_eq_true ⟨e1, e2⟩⟩
                    · rintro ⟨a, ha, e⟩
                      unfold isEmptyD at e
                      have := of_decide_eq_true e
                      exact ⟨a, ha, this.1, this.2⟩
                  have HSB := Lib.hid hsb
                  have HKZ := Lib.hid (keyOf_point zero32 4294967295 zero32_len zero32_bytes ⟨by omega, by omega⟩)
                  have hr : CHK (if sb = true then 7 else 0) := HCH4.out _ ⟨fun h => (by rw [hcb] at h; cases h), fun _ => ⟨fun h => by rw [if_pos (hany.2 h)], fun h => by rw [if_neg (fun h2 => h (hany.1 h2))]⟩⟩
                  clear hsb hsiff hany HCH4
                  have HEM := Lib.hid empty_any
                  generalize ptCells zero32 4294967295 = EC at *
                  cases sb
                  all_goals
                    go_wp2_with (first | (go_at_call 15; refine (HCB.out _ (HK.out.trans HMAP.out.keeps)).mono ?_; rintro e W8 ⟨rfl, hk8⟩; have HK8 := Lib.hid hk8; clear hk8) | (go_at_call 44; refine (HEM.out _).mono ?_; rintro e W9 ⟨rfl, hk9⟩; have HK9 := Lib.hid hk9; clear hk9) | (refine wpList_find_bool rfl _ _ 86 rfl ptKeyed Try.underlying86 Try.underlying4 ((HMAP.out.step HK8.out).step HK9.out) (zero_bool _) rfl _ _ rfl HKZ.out _ HSB.out ?_))
                    go_ret
                    exact ⟨_, rfl, hr, HK.out.trans ((HMAP.out.keeps.trans HK8.out).trans HK9.out)⟩
                · rw [hcb] at HCB
                  obtain ⟨g, off, sv, wv, di, rfl, hg, hdi, hrow, hrin⟩ := (HI.out.keeps HK.out).at 0 (by omega)
                  rw [Nat.zero_mul, Nat.add_zero] at hrow
                  have hat : ∀ W, Keeps W0 W → W.cell? ⟨g, off + 33, none⟩ = some sv := fun W hk => (at_index (hrow.keeps hk) hrin.ok.hashLen).2.1
                  obtain ⟨sa, sc, rfl, hsc, hscm, -⟩ := hrin.script.any
                  have HAT := Lib.hid hat
                  clear hat hrow hrin
                  have hbs : BadSize d ↔ (di.script.length < 2 ∨ 100 < di.script.length) := by
                    constructor
                    · rintro ⟨x, h1, h2⟩; rw [hdi] at h1; cases h1; exact h2
                    · intro h2; exact ⟨di, hdi, h2⟩
                  have hr1 : (di.script.length < 2 ∨ 100 < di.script.length) → CHK 3 := fun hb => HCH4.out 3 ⟨fun _ => ⟨fun _ => rfl, fun h => absurd (hbs.2 hb) h⟩, fun h => (by rw [hcb] at h; cases h)⟩
                  have hr2 : ¬ (di.script.length < 2 ∨ 100 < di.script.length) → CHK 0 := fun hb => HCH4.out 0 ⟨fun _ => ⟨fun h => absurd (hbs.1 h) hb, fun _ => rfl⟩, fun h => (by rw [hcb] at h; cases h)⟩
                  have HR1 := Lib.hid hr1; have HR2 := Lib.hid hr2
                  clear hr1 hr2 hbs HCH4
                  go_upto_region 23 with (go_at_call 15; refine (HCB.out _ (HK.out.trans HMAP.out.keeps)).mono ?_; rintro e W8 ⟨rfl, hk8⟩; have HK8 := Lib.hid hk8; clear hk8)
                  clear b0 b1 b2 b3
                  obtain ⟨b0, b1, b2, b3⟩ := HCE.out _ (HMAP.out.keeps.trans HK8.out)
                  have c33 := HAT.out _ (HMAP.out.keeps.trans HK8.out)
                  have hcases : (di.script.length < 2) ∨ (¬ di.script.length < 2 ∧ 100 < di.script.length) ∨ (¬ di.script.length < 2 ∧ ¬ 100 < di.script.length) := by omega
                  rcases hcases with q1 | ⟨q1, q2⟩ | ⟨q1, q2⟩
                  all_goals
                    go_wp2
                    go_ret
                    first
                      | exact ⟨_, rfl, HR1.out (by omega), HK.out.trans (HMAP.out.keeps.trans HK8.out)⟩
                      | exact ⟨_, rfl, HR2.out (by omega), HK.out.trans (HMAP.out.keeps.trans HK8.out)⟩
end Go.Proofs.Ytcodpdpeklammaa
