/- strongboxlaw10.few. | A transaction's bytes, in plain Lean. No condition. -/
import Derived.Test.YtclhjlkgmeofcaaDoorGD0
import Derived.Test.YtclhjlkgmeofcaaDoorGC1
import Derived.Test.YtclhjlkgmeofcaaDoorGC2
namespace Go.Proofs.YtclhjlkgmeofcaaDoor
set_option linter.unusedVariables false
set_option linter.unusedSimpArgs false
open Go Go.RowKit

theorem sz_blk (hc : List Value) (tv : Value) (h : hc.length = 68) : (Tryd.prog.info? 30).map (·.size) = some (hc ++ [tv]).length := by rw [List.length_append, h]; kernel_rfl
theorem blk_cell {w : World} {b : Nat} {hc : List Value} {tv : Value} (h : Row w b 0 (hc ++ [tv])) (hl : hc.length = 68) : w.cell? ⟨b, 68, none⟩ = some tv ∧ w.frozen? ⟨b, 68, none⟩ = false := by
  have := h 68 tv (by rw [List.getElem?_append_right (by omega)]; simp [hl])
  simpa using this
theorem blk_one {hc : List Value} {tv : Value} (h : ∀ v ∈ hc, v.oneCell' = true) (ht : tv.oneCell' = true) : ∀ v ∈ hc ++ [tv], v.oneCell' = true := fun v hv => by
  rcases List.mem_append.1 hv with hv | hv
  · exact h v hv
  · simp at hv; rw [hv]; exact ht
theorem blk_set {hc : List Value} {tv u : Value} (hl : hc.length = 68) : (hc ++ [tv]).set 68 u = hc ++ [u] := by
  rw [List.set_append_right _ _ (by omega), hl]; rfl
theorem map_take_snoc {α β : Type} (f : α → β) (l : List α) (i : Nat) (x : α) (h : l[i]? = some x) : (l.take (i + 1)).map f = (l.take i).map f ++ [f x] := by
  rw [List.take_add_one, h]; simp
def zeroBlk : List Value := Value.int .i32 0 :: (List.replicate 64 (Value.int .u8 0) ++ [.int .u32 0, .int .u32 0, .int .u32 0, .slice none 0 0])
set_option maxRecDepth 100000 in
set_option maxHeartbeats 4000000 in
theorem bfew_loop (hc : List Value) (hl : hc.length = 68) (h1 : ∀ v ∈ hc, v.oneCell' = true) (tv : Value) (l : List TxD) (w : World) (h : RTxs AnyB AnyB AnyB w tv l) :
    Calls Tryd.prog 7 #[.agg (hc ++ [tv]).toArray] w fun e w' => ∃ tv' B, w.heap.size ≤ B ∧ (∀ g, tv'.ownBlock = some g → B ≤ g) ∧ e = .returned (.agg (hc ++ [tv']).toArray) ∧ Keeps w w' ∧ RTxs (Btw B w'.heap.size) (Btw B w'.heap.size) (Btw B w'.heap.size) w' tv' ((l.take 12).map (fewD 4 200)) := by
  have HT := Lib.hid h; have HL := Lib.hid hl; have H1 := Lib.hid h1
  obtain ⟨a, cap, rfl, hcap, hcm⟩ := h.any
  have hsm := h.small
  clear h hl h1
  have hsp : ∃ m, m = (l.take 12).length ∧ ((12 < l.length ∧ m = 12) ∨ (¬ 12 < l.length ∧ m = l.length)) := ⟨_, rfl, by simp; omega⟩
  obtain ⟨m, hm, hcase⟩ := hsp
  have hTT : RTxs AnyB AnyB AnyB w (.slice a m cap) (l.take 12) := by
    rcases hcase with ⟨h, rfl⟩ | ⟨h, rfl⟩
    · exact HT.out.take 12 (by omega)
    · rw [List.take_of_length_le (by omega)]
      exact HT.out
  have HTT := Lib.hid hTT; have HM := Lib.hid hm
  clear hTT hm HT
  generalize l.take 12 = L at *
  rcases hcase with ⟨hb, rfl⟩ | ⟨hb, rfl⟩
  all_goals
    go_enter Tryd.func7, Tryd.ntmps7
    go_upto_region 1 with (fail)
    refine wp_rows2 (fun W0 hk hr1 hr2 hsz => ?_)
    have hr1 : Row W0 w.heap.size 0 (hc ++ [.slice a l.length cap]) := by simpa using hr1
    have hr2 : Row W0 (w.heap.size + 1) 0 zeroBlk := hr2
    obtain ⟨p, hp⟩ : ∃ p, p = w.heap.size := ⟨_, rfl⟩
    rw [← hp] at hr1 hr2 hsz ⊢
    have HP := Lib.hid hp; have HK := Lib.hid hk; have HR1 := Lib.hid hr1; have HR2 := Lib.hid hr2; have HSZ := Lib.hid hsz
    obtain ⟨b0, f0⟩ := blk_cell hr1 HL.out
    clear hp hk hr1 hr2 hsz
    go_upto_region 3 with (fail)
    refine wp_gen (fun W => Keeps w W ∧ Row W p 0 (hc ++ [.slice a L.length cap]) ∧ Row W (p + 1) 0 zeroBlk ∧ W.heap.size = p + 2) ?_ ?_
    focus
      first
        | exact ⟨keeps_chg HK.out (Chg.cell p 68 _) (by have := HP.out; omega), by
            have := HR1.out.set 68 (by rw [List.length_append, HL.out]; simp) (.slice a 12 cap)
            rw [blk_set HL.out] at this
            rw [← HM.out]
            simpa using this, HR2.out.other (show p + 1 ≠ p by omega) _, by simpa using HSZ.out⟩
        | exact ⟨HK.out, by have := HR1.out; rw [HM.out] at this; exact this, HR2.out, HSZ.out⟩
    rw [HM.out] at HTT
    clear HR1 HR2 HSZ HK b0 f0
    intro W1 ⟨hk, hr1, hr2, hsz⟩
    have HK := Lib.hid hk; have HR1 := Lib.hid hr1; have HR2 := Lib.hid hr2; have HSZ := Lib.hid hsz
    obtain ⟨b0, -⟩ := blk_cell hr1 HL.out
    clear hk hr1 hr2 hsz
    have hLs : L.length * 64 ≤ 140737488355328 := HTT.out.small
    obtain ⟨i0, z0, hi, hz0, hz1, hz2, hz3⟩ := info2_any tx_info tx_zero
    have HI := Lib.hid hi; have HZ0 := Lib.hid hz0; have HZ1 := Lib.hid hz1; have HZ2 := Lib.hid hz2; have HZ3 := Lib.hid hz3
    clear hi hz0 hz1 hz2 hz3
    try clear hb
    go_wp2
    go_loopw [3, 17] (fun v c wr => ∃ i : Nat, i ≤ L.length ∧ c = .int .i64 i ∧ ∃ cs ps, Hid (OwnTs W1 wr v ((L.take i).map (fewD 4 200)) cs ps)) (fun _ c _ => (L.length - intOf c).toNat)
    case atStart => exact ⟨0, by omega, rfl, _, _, Lib.hid (OwnTs.nil _)⟩
    case round =>
      obtain ⟨i, hi, rfl, cs, ps, HOW⟩ := hrel
      clear b0
      by_cases hlt : i < L.length
      · obtain ⟨g, off, iv, ov, d, rfl, hg, hdi, hrow, hrtx⟩ := (HTT.out.keeps (HK.out.trans HOW.out.keeps)).at hlt
        have HDI := Lib.hid hdi; have HROW := Lib.hid hrow; have HRTX := Lib.hid hrtx
        obtain ⟨va, vc, hv⟩ := HOW.out.any
        have hil : ((L.take i).map (fewD 4 200)).length = i := by simp; omega
        have HIL := Lib.hid hil
        rw [hil] at hv
        subst hv
        have HBF : Hid (Buf wr 4 (.slice va i vc) i cs) := Lib.hid (by have := HOW.out.buf; rw [hil] at this; exact this)
        obtain ⟨ia, ic, rfl, -⟩ := hrtx.ins.any
        obtain ⟨oa, oc, rfl, -⟩ := hrtx.outs.any
        clear hdi hrow hrtx hil
        go_upto_region 7 with (first | ((with_reducible refine gate_load 66 (.tmp 19) ?_); refine wpList_load_at rfl 66 (.tmp 19) rfl g (off + i * 4) rfl _ _ HROW.out Tryd.underlying66 rfl (sz_tx _ _ _ _) ?_) | ((with_reducible refine gate_store 66 (.tmp 5) (.tmp 20) ?_); refine wpList_store_row rfl 66 (.tmp 5) (.tmp 20) rfl _ 0 rfl _ (txCells d _ _) rfl (Row.new [.int .i32 0, .slice none 0 0, .slice none 0 0, .int .u32 0] _ _ rfl) rfl (sz_tx _ _ _ _) (four_one _ _ _ _ _ _ _ _) ?_; intro W5 hr5 hc5; have HR5 := Lib.hid hr5; have HC5 := Lib.hid hc5; clear hr5 hc5))
        have HK5 := Lib.hid (keeps_chg (keeps_alloc (Keeps.refl wr) _) HC5.out (Nat.le_refl _))
        obtain ⟨q, hq⟩ : ∃ q, q = wr.heap.size := ⟨_, rfl⟩
        rw [← hq] at HR5 ⊢
        clear hq HC5
        have HFW := Lib.hid (rfew_any AnyB AnyB AnyB 4 200 (by omega) (by omega) d _ _ W5 (HRTX.out.keeps HK5.out))
        go_wp2_with (first | ((with_reducible refine gate_load 66 (.tmp 5) ?_); refine wpList_load_at rfl 66 (.tmp 5) rfl q 0 rfl _ _ HR5.out Tryd.underlying66 rfl (sz_tx _ _ _ _) ?_) | (go_at_call 27; refine HFW.out.mono ?_; rintro e W6 ⟨iv6, ov6, rfl, hk6, S6, T6, ho6⟩; obtain ⟨ia6, ic6, rfl, -⟩ := ho6.rtx.ins.any; obtain ⟨oa6, oc6, rfl, -⟩ := ho6.rtx.outs.any; have HK6 := Lib.hid hk6; have HO6 := Lib.hid ho6; clear hk6 ho6) | (refine wpList_buildSlice1 rfl 28 66 _ rfl 4 64 Tryd.underlying28 tx_info tx_zero (by decide) (txCells (fewD 4 200 d) _ _) rfl rfl ?_) | (at_builtin; refine wpList_append_buf rfl _ _ 28 28 rfl 66 i0 z0 4 64 Tryd.underlying28 HI.out HZ0.out HZ1.out HZ2.out HZ3.out (by decide) (.slice va i vc) i cs rfl ((HBF.out.keeps HK5.out).keeps (HK6.out.trans (keeps_alloc (Keeps.refl _) _))) _ rfl 1 (txCells (fewD 4 200 d) _ _) (Src.row Tryd.underlying28 rfl (Row.new (txCells (fewD 4 200 d) _ _) _ 66 rfl) (four_one _ _ _ _ _ _ _ _)) (by unfold maxLen; omega) (by omega) ?_; intro v9 w9 hb9 hc9 hs9 _; have HB9 := Lib.hid hb9; have HC9 := Lib.hid hc9; have HS9 := Lib.hid hs9; clear hb9 hc9 hs9))
        have h9 := (HOW.out.step HK5.out).after (HK6.out.trans (keeps_alloc (Keeps.refl _) _)) (HO6.out.keeps (keeps_alloc (Keeps.refl _) _)) (by rw [HIL.out]; exact HB9.out) HC9.out HS9.out
        rw [← map_take_snoc (fewD 4 200) L i d HDI.out] at h9
        have H9 := Lib.hid h9
        clear h9 HB9 HC9 HS9
        go_roundw
        case rel => exact ⟨i + 1, by omega, by go_num, _, _, H9⟩
        case measure => simp [intOf]; omega
      · obtain rfl : L.length = i := by omega
        rw [List.take_length] at HOW
        have hml : (L.map (fewD 4 200)).length = L.length := by simp
        obtain ⟨va, vc, hv⟩ := HOW.out.any
        rw [hml] at hv
        subst hv
        have htx := HOW.out.txs (by rw [hml]; exact hLs)
        have HTX := Lib.hid htx
        have HKW := Lib.hid (HOW.out.keeps)
        have hnew : ∀ g, (Value.slice va L.length vc).ownBlock = some g → W1.heap.size ≤ g := HOW.out.new
        have HNW := Lib.hid hnew
        have HRp := Lib.hid (HR1.out.keeps HKW.out); have HRq := Lib.hid (HR2.out.keeps HKW.out)
        obtain ⟨b0, f0⟩ := blk_cell HRp.out HL.out
        clear htx hnew HOW hml
        go_upto_region 10 with (fail)
        have hrp : Row (wr.setCell ⟨p, 68, none⟩ (.slice va L.length vc)) p 0 (hc ++ [.slice va L.length vc]) := by
          have := HRp.out.set 68 (by rw [List.length_append, HL.out]; simp) (.slice va L.length vc)
          rw [blk_set HL.out] at this
          simpa using this
        have hrq : Row (wr.setCell ⟨p, 68, none⟩ (.slice va L.length vc)) (p + 1) 0 zeroBlk := HRq.out.other (show p + 1 ≠ p by omega) _
        have hxc := Chg.cell (W := wr) p 68 (.slice va L.length vc)
        have HRP := Lib.hid hrp; have HRQ := Lib.hid hrq; have HXC := Lib.hid hxc
        clear hrp hrq hxc b0 f0 HRp HRq
        generalize wr.setCell ⟨p, 68, none⟩ (.slice va L.length vc) = WY at *
        go_wp2_with (first | ((with_reducible refine gate_load 30 (.tmp 1) ?_); refine wpList_load_at rfl 30 (.tmp 1) rfl p 0 rfl _ _ HRP.out Tryd.underlying30 rfl (sz_blk _ _ HL.out) ?_) | ((with_reducible refine gate_store 30 (.tmp 2) (.tmp 29) ?_); refine wpList_store_row rfl 30 (.tmp 2) (.tmp 29) rfl (p + 1) 0 rfl zeroBlk (hc ++ [.slice va L.length vc]) rfl HRQ.out (by rw [List.length_append, HL.out]; rfl) (sz_blk _ _ HL.out) (blk_one H1.out rfl) ?_; intro W9 hr9 hc9; have HR9 := Lib.hid hr9; have HC9 := Lib.hid hc9; clear hr9 hc9))
        refine bodyPost_ret (results_cell_at rfl _ _ (p + 1) 0 _ _ (by simp only [Act.put, List.setIfInBounds_toArray, List.set_cons_zero, List.set_cons_succ]; rfl) HR9.out Tryd.underlying30 rfl (sz_blk _ _ HL.out)) rfl ?_
        have hpp := HP.out; have hszz := HSZ.out
        have y1 : Chg (fun g => g = p ∨ g = p + 1) wr W9 := (HXC.out.mono (fun g _ h => .inl h)).trans (HC9.out.mono (fun g _ h => .inr h))
        have hle := y1.size
        have hsl := HKW.out.size
        refine ⟨_, W1.heap.size, HK.out.size, HNW.out, rfl, keeps_chg (keeps_chg (HK.out.trans HKW.out) HXC.out (by omega)) HC9.out (by omega), ?_⟩
        refine (HTX.out.chg y1 (fun g e hx => by have := HNW.out g e; omega) (fun g hg hx => by have := hg.1; omega) (fun g hg hx => by have := hg.1; omega) (fun g hg hx => by have := hg.1; omega)).mono (fun g hg => ⟨hg.1, Nat.lt_of_lt_of_le hg.2 hle⟩) (fun g hg => ⟨hg.1, Nat.lt_of_lt_of_le hg.2 hle⟩) (fun g hg => ⟨hg.1, Nat.lt_of_lt_of_le hg.2 hle⟩)
end Go.Proofs.YtclhjlkgmeofcaaDoor
namespace Go.Proofs.YtclhjlkgmeofcaaDoor
set_option linter.unusedVariables false
set_option linter.unusedSimpArgs false
open Go Go.RowKit

def witnessedD (d : TxD) : Bool := d.ins.any (fun i => decide (0 < i.wit.length))
def inB (d : InD) : List Int := d.hash ++ leB d.index 4 ++ textB d.script ++ leB d.seq 4
def insB (l : List InD) : List Int := sizeB (l.length : Int) ++ l.flatMap inB
def outB (d : OutD) : List Int := leB (d.value % 18446744073709551616) 8 ++ textB d.script
def outsB (l : List OutD) : List Int := sizeB (l.length : Int) ++ l.flatMap outB
def witB (d : InD) : List Int := sizeB (d.wit.length : Int) ++ d.wit.flatMap textB
def encB (d : TxD) (wit : Bool) : List Int := leB (d.ver % 4294967296) 4 ++ (if wit && witnessedD d then [0, 1] else []) ++ insB d.ins ++ outsB d.outs ++ (if wit && witnessedD d then d.ins.flatMap witB else []) ++ leB d.lock 4
/-- all its parts together are not too long -/
def Fits (d : TxD) : Prop := (insB d.ins).length + (outsB d.outs).length + (d.ins.flatMap witB).length ≤ 1000000000000
theorem take_flat {α : Type} (f : α → List Int) (l : List α) (i : Nat) (x : α) (h : l[i]? = some x) : (l.take (i + 1)).flatMap f = (l.take i).flatMap f ++ f x := by
  rw [List.take_add_one, h]; simp
theorem flat_take_le {α : Type} (f : α → List Int) (l : List α) (i : Nat) : ((l.take i).flatMap f).length ≤ (l.flatMap f).length := by
  conv => rhs; rw [← List.take_append_drop i l]
  rw [List.flatMap_append, List.length_append]
  omega
theorem flat_le {α : Type} (f : α → List Int) (c : Nat) : ∀ (l : List α), (∀ x ∈ l, (f x).length ≤ c) → (l.flatMap f).length ≤ l.length * c
  | [], _ => by simp
  | x :: l, h => by
    rw [List.flatMap_cons, List.length_append, List.length_cons, Nat.add_mul, Nat.one_mul]
    have h1 := h x (by simp)
    have h2 := flat_le f c l (fun y hy => h y (by simp [hy]))
    omega
theorem inB_eq (d : InD) (l : List Int) : l ++ d.hash ++ leB d.index 4 ++ textB d.script ++ leB d.seq 4 = l ++ inB d := by unfold inB; simp only [List.append_assoc]
theorem outB_eq (d : OutD) (l : List Int) : l ++ leB (d.value % 18446744073709551616) 8 ++ textB d.script = l ++ outB d := by unfold outB; simp only [List.append_assoc]
theorem any_false_upto {α : Type} (f : α → Bool) (l : List α) (h : ∀ (i : Nat) (x : α), l[i]? = some x → f x = false) : l.any f = false := by
  rw [List.any_eq_false]
  intro x hx
  obtain ⟨i, hi, e⟩ := List.getElem_of_mem hx
  rw [h i x (by rw [List.getElem?_eq_getElem hi, e])]
  simp
theorem any_true_at {α : Type} (f : α → Bool) (l : List α) (i : Nat) (x : α) (h : l[i]? = some x) (hf : f x = true) : l.any f = true := by
  rw [List.any_eq_true]
  exact ⟨x, List.mem_of_getElem? h, hf⟩
end Go.Proofs.YtclhjlkgmeofcaaDoor
