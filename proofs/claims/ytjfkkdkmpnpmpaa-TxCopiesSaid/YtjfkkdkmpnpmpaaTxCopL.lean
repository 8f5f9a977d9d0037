/- strongboxlaw09.TxCopies: the walk. -/
import Derived.Test.YtjfkkdkmpnpmpaaTxPoke
import Derived.Test.YtjfkkdkmpnpmpaaTxClone
import Derived.Test.YtjfkkdkmpnpmpaaTxAwake
import Derived.Test.YtjfkkdkmpnpmpaaGate
namespace Go.Proofs.Ytjfkkdkmpnpmpaa
set_option linter.unusedVariables false
set_option linter.unusedSimpArgs false
open Go Go.RowKit

/-- the blocks of a transaction of one's own -/
def XB (S T : Nat → Prop) (iv ov : Value) : Nat → Prop := fun g => S g ∨ T g ∨ iv.ownBlock = some g ∨ ov.ownBlock = some g
theorem byte_xor {y : Int} (h : Byte y) : Byte (bits .xor .u8 y 255) := by
  obtain ⟨h1, h2⟩ := h
  rw [u8_xor y 255 h1 h2 (by omega) (by omega)]
  have h3 : y.toNat ^^^ (255 : Int).toNat < 2 ^ 8 := Nat.xor_lt_two_pow (by omega) (by decide)
  exact ⟨by omega, by omega⟩
theorem RB.byteAt {S : Nat → Prop} {w W : World} {a : Option Addr} {n cap : Nat} {l : List Int} (h : RB S w (.slice a n cap) l) (hs : ByteStep S w W) {k : Nat} (hk : k < l.length) :
    ∃ g o y z, a = some ⟨g, o, none⟩ ∧ S g ∧ W.cell? ⟨g, o + k, none⟩ = some (.int .u8 y) ∧ W.frozen? ⟨g, o + k, none⟩ = false ∧ bits .xor .u8 y 255 = z ∧ ByteStep S w (W.setCell ⟨g, o + k, none⟩ (.int .u8 z)) := by
  obtain ⟨h0, a', cap', e, h2, h3, h4, h5⟩ := h.rd
  cases e
  cases a with
  | none => have := h4 rfl; omega
  | some ad =>
    obtain ⟨g, o, rfl, hg, hr⟩ := h5 ad rfl (by omega)
    have hsg : S g := h.foot g rfl
    have h6 := hr k (.int .u8 l[k]) (by simp [hk])
    obtain ⟨y, h7, h8, h9⟩ := hs.cells g (o + k) l[k] hsg h6.1 (h.bytes _ (List.getElem_mem hk)) h6.2
    exact ⟨g, o, y, _, rfl, hsg, h7, h9, rfl, hs.trans (ByteStep.one hsg h7 (byte_xor h8))⟩
theorem i64_wrap (z : Int) : I64 (IntKind.i64.wrap z) := by
  rw [IntKind.wrap_i64]; exact ⟨by omega, by omega⟩
theorem u32_mod (z : Int) : U32 (z % 4294967296) := ⟨by omega, by omega⟩
set_option maxRecDepth 100000 in
set_option maxHeartbeats 8000000 in
theorem copies_any (d e : TxD) (iv ov iv' ov' : Value) (w : World) (h : RTx AnyB AnyB AnyB w iv ov d) (h' : RTx AnyB AnyB AnyB w iv' ov' e) :
    Calls Try.prog 4 #[.agg #[.int .i32 d.ver, iv, ov, .int .u32 d.lock], .agg #[.int .i32 e.ver, iv', ov', .int .u32 e.lock]] w fun e w' => e = .returned (.bool true) ∧ Keeps w w' := by
  have HT := Lib.hid h; have HU := Lib.hid h'
  obtain ⟨ia, ic, rfl, -⟩ := h.ins.any
  obtain ⟨oa, oc, rfl, -⟩ := h.outs.any
  obtain ⟨ia', ic', rfl, -⟩ := h'.ins.any
  obtain ⟨oa', oc', rfl, -⟩ := h'.outs.any
  clear h h'
  have HF := Lib.hid (fun W (hk : Keeps w W) => few_any d _ _ W (HT.out.keeps hk))
  have HG := Lib.hid (fun W (hk : Keeps w W) => few_any e _ _ W (HU.out.keeps hk))
  have HAW := Lib.hid awake_any
  have hver : (fewD 10 600 d).ver = d.ver := rfl
  have hlock : (fewD 10 600 d).lock = d.lock := rfl
  have hver' : (fewD 10 600 e).ver = e.ver := rfl
  have hlock' : (fewD 10 600 e).lock = e.lock := rfl
  obtain ⟨D, hD⟩ : ∃ D, D = fewD 10 600 d := ⟨_, rfl⟩
  obtain ⟨E, hE⟩ : ∃ E, E = fewD 10 600 e := ⟨_, rfl⟩
  rw [← hD] at hver hlock
  rw [← hE] at hver' hlock'
  rw [← hD] at HF
  rw [← hE] at HG
  clear hD hE
  rw [← hver, ← hlock, ← hver', ← hlock']
  rw [← hver, ← hlock] at HF
  rw [← hver', ← hlock'] at HG
  clear hver hlock hver' hlock'
  generalize (Value.slice ia d.ins.length ic) = iv0 at *
  generalize (Value.slice oa d.outs.length oc) = ov0 at *
  generalize (Value.slice ia' e.ins.length ic') = iv1 at *
  generalize (Value.slice oa' e.outs.length oc') = ov1 at *
  clear HT HU
  go_enter Try.func4, Try.ntmps4
  go_upto_region 1 with (fail)
  refine wp_rows2 (fun W0 hk hr1 hr2 hsz => ?_)
  simp only at hr1 hr2
  obtain ⟨p, hpe⟩ : ∃ p, p = w.heap.size := ⟨_, rfl⟩
  rw [← hpe] at hr1 hr2 hsz ⊢
  have HPE := Lib.hid hpe; have HSZ := Lib.hid hsz; have HK := Lib.hid hk; have HR1 := Lib.hid hr1; have HR2 := Lib.hid hr2
  clear hk hr1 hr2 hpe hsz
  go_upto_region 3 with (go_at_call 7; refine (HAW.out _).mono ?_; rintro e W2 ⟨rfl, hk2⟩; have HK2 := Lib.hid hk2; clear hk2)
  refine wp_region_head (S := fun W => Hid ((fun W => Keeps W2 W) W)) 4 (by kernel_rfl) (by kernel_rfl) ?_ (fun hHeld => ?_)
  focus exact Lib.hid (keeps_drew (Keeps.refl _))
  refine wpAnyHL_take (i := 0) (oi := ?_) (v := ?_) ?_ ?_ ?_ ?_ ?_ ?_ ?_ ?_ ?_ (Or.inl ⟨?_, ?_⟩) ?_ ?_
  rotate_left 2
  focus (simp only [List.getElem?_toArray, List.getElem?_cons_succ, List.getElem?_cons_zero]; exact rfl)
  focus kernel_rfl
  focus kernel_rfl
  focus kernel_rfl
  focus kernel_rfl
  focus kernel_rfl
  focus kernel_rfl
  focus kernel_rfl
  focus (exact fun _ _ _ h => h)
  focus rfl
  focus (intro wSw hSw; (have hSw := hSw.out); (refine run_load_row 26 (.tmp 2) ?_ p 0 ?_ _ _ ((HR1.out.keeps HK2.out).keeps hSw) Try.underlying26 rfl (sz_tx _ _ _ _)) <;> rfl)
  focus assumption
  try simp only [Act.put, List.setIfInBounds_toArray, List.set_cons_zero, List.set_cons_succ]
  refine wpAnyHL_take (i := 2) (oi := ?_) (v := ?_) ?_ ?_ ?_ ?_ ?_ ?_ ?_ ?_ ?_ (Or.inl ⟨?_, ?_⟩) ?_ ?_
  rotate_left 2
  focus (simp only [List.getElem?_toArray, List.getElem?_cons_succ, List.getElem?_cons_zero]; exact rfl)
  focus kernel_rfl
  focus kernel_rfl
  focus kernel_rfl
  focus kernel_rfl
  focus kernel_rfl
  focus kernel_rfl
  focus kernel_rfl
  focus (exact fun _ _ _ h => h)
  focus rfl
  focus (intro wSw hSw; (have hSw := hSw.out); (refine run_load_row 26 (.tmp 3) ?_ (p + 1) 0 ?_ _ _ ((HR2.out.keeps HK2.out).keeps hSw) Try.underlying26 rfl (sz_tx _ _ _ _)) <;> rfl)
  focus assumption
  try simp only [Act.put, List.setIfInBounds_toArray, List.set_cons_zero, List.set_cons_succ]
  refine wpAnyHL_one (i := 1) (o := ?_) (by kernel_rfl) (by kernel_rfl) ?_ ?_
  rotate_left 1
  focus (simp only [List.getElem?_toArray, List.getElem?_cons_succ, List.getElem?_cons_zero]; exact rfl)
  go_wp2_with (go_at_call 8; refine (HF.out _ ((HK.out.trans HK2.out).trans hHeld.out)).mono ?_; rintro e W3 ⟨iv3, ov3, rfl, hk3, S3, T3, ho3⟩; obtain ⟨ia3, ic3, rfl, -⟩ := ho3.rtx.ins.any; obtain ⟨oa3, oc3, rfl, -⟩ := ho3.rtx.outs.any; have HK3 := Lib.hid hk3; have HO3 := Lib.hid ho3; clear hk3 ho3)
  try dsimp only [StepQ]
  refine ⟨?_, fun hHeld => ?_⟩
  focus (exact Lib.hid (hHeld.out.trans HK3.out))
  try simp only [Act.put, List.setIfInBounds_toArray, List.set_cons_zero, List.set_cons_succ]
  refine wpAnyHL_one (i := 3) (o := ?_) (by kernel_rfl) (by kernel_rfl) ?_ ?_
  rotate_left 1
  focus (simp only [List.getElem?_toArray, List.getElem?_cons_succ, List.getElem?_cons_zero]; exact rfl)
  go_wp2_with (go_at_call 8; refine (HG.out _ ((HK.out.trans HK2.out).trans hHeld.out)).mono ?_; rintro e W4 ⟨iv4, ov4, rfl, hk4, S4, T4, ho4⟩; obtain ⟨ia4, ic4, rfl, -⟩ := ho4.rtx.ins.any; obtain ⟨oa4, oc4, rfl, -⟩ := ho4.rtx.outs.any; have HK4 := Lib.hid hk4; have HO4 := Lib.hid ho4; clear hk4 ho4)
  try dsimp only [StepQ]
  refine ⟨?_, fun hHeld => ?_⟩
  focus (exact Lib.hid (hHeld.out.trans HK4.out))
  try simp only [Act.put, List.setIfInBounds_toArray, List.set_cons_zero, List.set_cons_succ]
  refine wpAnyHL_done (by kernel_rfl) ?_
  try simp only [List.drop_succ_cons, List.drop_zero]
  have HK24 := Lib.hid hHeld.out
  have HRA := Lib.hid ((HR1.out.keeps HK2.out).keeps HK24.out); have HRB := Lib.hid ((HR2.out.keeps HK2.out).keeps HK24.out)
  go_upto_region 4 with (first | ((with_reducible refine gate_store 26 (.tmp 2) (.tmp 16) ?_); refine wpList_store_row rfl 26 (.tmp 2) (.tmp 16) rfl p 0 rfl _ [.int .i32 D.ver, .slice ia3 _ ic3, .slice oa3 _ oc3, .int .u32 D.lock] rfl HRA.out rfl (sz_tx _ _ _ _) (four_one _ _ _ _ _ _ _ _) ?_; intro W5 hr5 hc5; have HR5 := Lib.hid hr5; have HC5 := Lib.hid hc5; clear hr5 hc5) | ((with_reducible refine gate_store 26 (.tmp 3) (.tmp 18) ?_); refine wpList_store_row rfl 26 (.tmp 3) (.tmp 18) rfl (p + 1) 0 rfl _ [.int .i32 E.ver, .slice ia4 _ ic4, .slice oa4 _ oc4, .int .u32 E.lock] rfl (HRB.out.chg HC5.out (by omega)) rfl (sz_tx _ _ _ _) (four_one _ _ _ _ _ _ _ _) ?_; intro W6 hr6 hc6; have HR6 := Lib.hid hr6; have HC6 := Lib.hid hc6; clear hr6 hc6))
  have hst : Keeps w W6 ∧ Row W6 p 0 [.int .i32 D.ver, .slice ia3 D.ins.length ic3, .slice oa3 D.outs.length oc3, .int .u32 D.lock] ∧ OwnTx S3 T3 (p + 2) W6 (.slice ia3 D.ins.length ic3) (.slice oa3 D.outs.length oc3) D ∧ OwnTx S4 T4 (p + 2) W6 (.slice ia4 E.ins.length ic4) (.slice oa4 E.outs.length oc4) E := by
    have hp := HPE.out; have hsz := HSZ.out
    have s2 := HK2.out.size
    have hb2 : W2.drew.heap.size = W2.heap.size := rfl
    have s3 := HK3.out.size; have s4 := HK4.out.size
    have x5 : ∀ g, (· = p) g → g < p + 2 ∨ W4.heap.size ≤ g := fun g e => .inl (by rw [e]; omega)
    have s5 := HC5.out.size
    have x6 : ∀ g, (· = p + 1) g → g < p + 2 ∨ W5.heap.size ≤ g := fun g e => .inl (by rw [e]; omega)
    refine ⟨keeps_chg (keeps_chg (HK.out.trans (HK2.out.trans HK24.out)) HC5.out (by omega)) HC6.out (by omega), HR5.out.chg HC6.out (by omega), (((HO3.out.low (by omega)).keeps HK4.out).chg HC5.out x5).chg HC6.out x6, ((HO4.out.low (by omega)).chg HC5.out x5).chg HC6.out x6⟩
  obtain ⟨hk6, hr6, ho6, hu6⟩ := hst
  have HK6 := Lib.hid hk6; have HR5' := Lib.hid hr6; have HO6 := Lib.hid ho6; have HU6 := Lib.hid hu6
  clear hk6 hr6 ho6 hu6 HR5 HC5 HC6 HRA HRB HO3 HO4 HK3 HK4 HK24 HK2 HR1 HR2 HF HG HAW HK hHeld
  have HC1 := Lib.hid (fun W (hk : Keeps W6 W) => same_any D E _ _ _ _ W (HO6.out.rtx.keeps hk) (HU6.out.rtx.keeps hk))
  have HC2 := Lib.hid (fun W (hk : Keeps W6 W) => rsame_any D E _ _ _ _ W (HO6.out.rtx.keeps hk) (HU6.out.rtx.keeps hk))
  have HC3 := Lib.hid (fun W (hk : Keeps W6 W) => same_any D D _ _ _ _ W (HO6.out.rtx.keeps hk) (HO6.out.rtx.keeps hk))
  generalize decide (D = E) = BB at *
  simp only [decide_true] at HC3
  have hz : (BB != BB) = false := by cases BB <;> rfl
  refine wp_region_head (S := fun W => Hid ((fun W => Keeps W6 W) W)) 12 (by kernel_rfl) (by kernel_rfl) ?_ (fun hHeld => ?_)
  focus exact Lib.hid (keeps_drew (Keeps.refl _))
  refine wpAnyHL_take (i := 0) (oi := ?_) (v := ?_) ?_ ?_ ?_ ?_ ?_ ?_ ?_ ?_ ?_ (Or.inl ⟨?_, ?_⟩) ?_ ?_
  rotate_left 2
  focus (simp only [List.getElem?_toArray, List.getElem?_cons_succ, List.getElem?_cons_zero]; exact rfl)
  focus kernel_rfl
  focus kernel_rfl
  focus kernel_rfl
  focus kernel_rfl
  focus kernel_rfl
  focus kernel_rfl
  focus kernel_rfl
  focus (exact fun _ _ _ h => h)
  focus rfl
  focus (intro wSw hSw; (have hSw := hSw.out); (refine run_load_row 26 (.tmp 2) ?_ p 0 ?_ _ _ (HR5'.out.keeps hSw) Try.underlying26 rfl (sz_tx _ _ _ _)) <;> rfl)
  focus assumption
  try simp only [Act.put, List.setIfInBounds_toArray, List.set_cons_zero, List.set_cons_succ]
  refine wpAnyHL_take (i := 1) (oi := ?_) (v := ?_) ?_ ?_ ?_ ?_ ?_ ?_ ?_ ?_ ?_ (Or.inl ⟨?_, ?_⟩) ?_ ?_
  rotate_left 2
  focus (simp only [List.getElem?_toArray, List.getElem?_cons_succ, List.getElem?_cons_zero]; exact rfl)
  focus kernel_rfl
  focus kernel_rfl
  focus kernel_rfl
  focus kernel_rfl
  focus kernel_rfl
  focus kernel_rfl
  focus kernel_rfl
  focus (exact fun _ _ _ h => h)
  focus rfl
  focus (intro wSw hSw; (have hSw := hSw.out); (refine run_load_row 26 (.tmp 3) ?_ (p + 1) 0 ?_ _ _ (HR6.out.keeps hSw) Try.underlying26 rfl (sz_tx _ _ _ _)) <;> rfl)
  focus assumption
  try simp only [Act.put, List.setIfInBounds_toArray, List.set_cons_zero, List.set_cons_succ]
  refine wpAnyHL_take (i := 3) (oi := ?_) (v := ?_) ?_ ?_ ?_ ?_ ?_ ?_ ?_ ?_ ?_ (Or.inl ⟨?_, ?_⟩) ?_ ?_
  rotate_left 2
  focus (simp only [List.getElem?_toArray, List.getElem?_cons_succ, List.getElem?_cons_zero]; exact rfl)
  focus kernel_rfl
  focus kernel_rfl
  focus kernel_rfl
  focus kernel_rfl
  focus kernel_rfl
  focus kernel_rfl
  focus kernel_rfl
  focus (exact fun _ _ _ h => h)
  focus rfl
  focus (intro wSw hSw; (have hSw := hSw.out); (refine run_load_row 26 (.tmp 2) ?_ p 0 ?_ _ _ (HR5'.out.keeps hSw) Try.underlying26 rfl (sz_tx _ _ _ _)) <;> rfl)
  focus assumption
  try simp only [Act.put, List.setIfInBounds_toArray, List.set_cons_zero, List.set_cons_succ]
  refine wpAnyHL_take (i := 4) (oi := ?_) (v := ?_) ?_ ?_ ?_ ?_ ?_ ?_ ?_ ?_ ?_ (Or.inl ⟨?_, ?_⟩) ?_ ?_
  rotate_left 2
  focus (simp only [List.getElem?_toArray, List.getElem?_cons_succ, List.getElem?_cons_zero]; exact rfl)
  focus kernel_rfl
  focus kernel_rfl
  focus kernel_rfl
  focus kernel_rfl
  focus kernel_rfl
  focus kernel_rfl
  focus kernel_rfl
  focus (exact fun _ _ _ h => h)
  focus rfl
  focus (intro wSw hSw; (have hSw := hSw.out); (refine run_load_row 26 (.tmp 3) ?_ (p + 1) 0 ?_ _ _ (HR6.out.keeps hSw) Try.underlying26 rfl (sz_tx _ _ _ _)) <;> rfl)
  focus assumption
  try simp only [Act.put, List.setIfInBounds_toArray, List.set_cons_zero, List.set_cons_succ]
  refine wpAnyHL_one (i := 2) (o := ?_) (by kernel_rfl) (by kernel_rfl) ?_ ?_
  rotate_left 1
  focus (simp only [List.getElem?_toArray, List.getElem?_cons_succ, List.getElem?_cons_zero]; exact rfl)
  go_wp2_with (go_at_call 15; refine (HC1.out _ hHeld.out).mono ?_; rintro e W7 ⟨rfl, hk7⟩; have HK7 := Lib.hid hk7; clear hk7)
  try dsimp only [StepQ]
  refine ⟨?_, fun hHeld => ?_⟩
  focus (exact Lib.hid (hHeld.out.trans HK7.out))
  try simp only [Act.put, List.setIfInBounds_toArray, List.set_cons_zero, List.set_cons_succ]
  refine wpAnyHL_one (i := 5) (o := ?_) (by kernel_rfl) (by kernel_rfl) ?_ ?_
  rotate_left 1
  focus (simp only [List.getElem?_toArray, List.getElem?_cons_succ, List.getElem?_cons_zero]; exact rfl)
  go_wp2_with (go_at_call 16; refine (HC2.out _ hHeld.out).mono ?_; rintro e W8 ⟨rfl, hk8⟩; have HK8 := Lib.hid hk8; clear hk8)
  try dsimp only [StepQ]
  refine ⟨?_, fun hHeld => ?_⟩
  focus (exact Lib.hid (hHeld.out.trans HK8.out))
  try simp only [Act.put, List.setIfInBounds_toArray, List.set_cons_zero, List.set_cons_succ]
  refine wpAnyHL_take (i := 6) (oi := ?_) (v := ?_) ?_ ?_ ?_ ?_ ?_ ?_ ?_ ?_ ?_ (Or.inl ⟨?_, ?_⟩) ?_ ?_
  rotate_left 2
  focus (simp only [List.getElem?_toArray, List.getElem?_cons_succ, List.getElem?_cons_zero]; exact rfl)
  focus kernel_rfl
  focus kernel_rfl
  focus kernel_rfl
  focus kernel_rfl
  focus kernel_rfl
  focus kernel_rfl
  focus kernel_rfl
  focus (exact fun _ _ _ h => h)
  focus rfl
  focus ((intro wSw hSw; (have hSw := hSw.out); (try dsimp only at hSw); go_simp) <;> with_reducible rfl)
  focus assumption
  try simp only [Act.put, List.setIfInBounds_toArray, List.set_cons_zero, List.set_cons_succ]
  refine wpAnyHL_take (i := 7) (oi := ?_) (v := ?_) ?_ ?_ ?_ ?_ ?_ ?_ ?_ ?_ ?_ (Or.inl ⟨?_, ?_⟩) ?_ ?_
  rotate_left 2
  focus (simp only [List.getElem?_toArray, List.getElem?_cons_succ, List.getElem?_cons_zero]; exact rfl)
  focus kernel_rfl
  focus kernel_rfl
  focus kernel_rfl
  focus kernel_rfl
  focus kernel_rfl
  focus kernel_rfl
  focus kernel_rfl
  focus (exact fun _ _ _ h => h)
  focus rfl
  focus ((intro wSw hSw; (have hSw := hSw.out); (try dsimp only at hSw); go_simp) <;> with_reducible rfl)
  focus assumption
  try simp only [Act.put, List.setIfInBounds_toArray, List.set_cons_zero, List.set_cons_succ]
  refine wpAnyHL_take (i := 8) (oi := ?_) (v := ?_) ?_ ?_ ?_ ?_ ?_ ?_ ?_ ?_ ?_ (Or.inl ⟨?_, ?_⟩) ?_ ?_
  rotate_left 2
  focus (simp only [List.getElem?_toArray, List.getElem?_cons_succ, List.getElem?_cons_zero]; exact rfl)
  focus kernel_rfl
  focus kernel_rfl
  focus kernel_rfl
  focus kernel_rfl
  focus kernel_rfl
  focus kernel_rfl
  focus kernel_rfl
  focus (exact fun _ _ _ h => h)
  focus rfl
  focus (intro wSw hSw; (have hSw := hSw.out); (refine run_load_row 26 (.tmp 2) ?_ p 0 ?_ _ _ (HR5'.out.keeps hSw) Try.underlying26 rfl (sz_tx _ _ _ _)) <;> rfl)
  focus assumption
  try simp only [Act.put, List.setIfInBounds_toArray, List.set_cons_zero, List.set_cons_succ]
  refine wpAnyHL_take (i := 9) (oi := ?_) (v := ?_) ?_ ?_ ?_ ?_ ?_ ?_ ?_ ?_ ?_ (Or.inl ⟨?_, ?_⟩) ?_ ?_
  rotate_left 2
  focus (simp only [List.getElem?_toArray, List.getElem?_cons_succ, List.getElem?_cons_zero]; exact rfl)
  focus kernel_rfl
  focus kernel_rfl
  focus kernel_rfl
  focus kernel_rfl
  focus kernel_rfl
  focus kernel_rfl
  focus kernel_rfl
  focus (exact fun _ _ _ h => h)
  focus rfl
  focus (intro wSw hSw; (have hSw := hSw.out); (refine run_load_row 26 (.tmp 2) ?_ p 0 ?_ _ _ (HR5'.out.keeps hSw) Try.underlying26 rfl (sz_tx _ _ _ _)) <;> rfl)
  focus assumption
  try simp only [Act.put, List.setIfInBounds_toArray, List.set_cons_zero, List.set_cons_succ]
  refine wpAnyHL_one (i := 10) (o := ?_) (by kernel_rfl) (by kernel_rfl) ?_ ?_
  rotate_left 1
  focus (simp only [List.getElem?_toArray, List.getElem?_cons_succ, List.getElem?_cons_zero]; exact rfl)
  go_wp2_with (go_at_call 15; refine (HC3.out _ hHeld.out).mono ?_; rintro e W9 ⟨rfl, hk9⟩; have HK9 := Lib.hid hk9; clear hk9)
  try dsimp only [StepQ]
  refine ⟨?_, fun hHeld => ?_⟩
  focus (exact Lib.hid (hHeld.out.trans HK9.out))
  try simp only [Act.put, List.setIfInBounds_toArray, List.set_cons_zero, List.set_cons_succ]
  refine wpAnyHL_take (i := 11) (oi := ?_) (v := ?_) ?_ ?_ ?_ ?_ ?_ ?_ ?_ ?_ ?_ (Or.inl ⟨?_, ?_⟩) ?_ ?_
  rotate_left 2
  focus (simp only [List.getElem?_toArray, List.getElem?_cons_succ, List.getElem?_cons_zero]; exact rfl)
  focus kernel_rfl
  focus kernel_rfl
  focus kernel_rfl
  focus kernel_rfl
  focus kernel_rfl
  focus kernel_rfl
  focus kernel_rfl
  focus (exact fun _ _ _ h => h)
  focus rfl
  focus ((intro wSw hSw; (have hSw := hSw.out); (try dsimp only at hSw); go_simp) <;> with_reducible rfl)
  focus assumption
  try simp only [Act.put, List.setIfInBounds_toArray, List.set_cons_zero, List.set_cons_succ]
  refine wpAnyHL_done (by kernel_rfl) ?_
  try simp only [List.drop_succ_cons, List.drop_zero]
  have HKA := Lib.hid hHeld.out
  clear hz HC1 HC2 HC3 HK7 HK8 HK9 hHeld HR6 HU6
  generalize W9 = WA at *
  have hoa : OwnTx S3 T3 (p + 2) WA (.slice ia3 D.ins.length ic3) (.slice oa3 D.outs.length oc3) D := HO6.out.keeps HKA.out
  have HOA := Lib.hid hoa
  have HRA := Lib.hid (HR5'.out.keeps HKA.out)
  have HKW := Lib.hid (HK6.out.trans HKA.out)
  have HCL := Lib.hid (clone_any S3 T3 AnyB D _ _ WA ⟨hoa.ver, hoa.lock, hoa.ins.x.mono (fun _ h => h) (fun _ h => h) (fun _ _ => trivial), hoa.outs.mono (fun _ h => h) (fun _ _ => trivial)⟩ (fun g hg => (hoa.fresh g (.inl hg)).2) (fun g hg => (hoa.fresh g (.inr (.inl hg))).2))
  clear hoa HKA HK6 HO6 HR5'
  go_upto_region 7 with (first | ((with_reducible refine gate_load 26 (.tmp 2) ?_); refine wpList_load_at rfl 26 (.tmp 2) rfl p 0 rfl _ _ HRA.out Try.underlying26 rfl (sz_tx _ _ _ _) ?_) | (go_at_call 17; refine HCL.out.mono ?_; rintro e W8 ⟨iv8, ov8, rfl, hk8, S8, T8, ho8⟩; obtain ⟨ia8, ic8, rfl, -⟩ := ho8.rtx.ins.any; obtain ⟨oa8, oc8, rfl, -⟩ := ho8.rtx.outs.any; have HK8 := Lib.hid hk8; have HO8 := Lib.hid ho8; clear hk8 ho8) | ((with_reducible refine gate_store 26 (.tmp 5) (.tmp 33) ?_); refine wpList_store_row rfl 26 (.tmp 5) (.tmp 33) rfl _ 0 rfl _ [.int .i32 D.ver, .slice ia8 _ ic8, .slice oa8 _ oc8, .int .u32 D.lock] rfl (Row.new [.int .i32 0, .slice none 0 0, .slice none 0 0, .int .u32 0] _ _ rfl) rfl (sz_tx _ _ _ _) (four_one _ _ _ _ _ _ _ _) ?_; intro W9 hr9 hc9; have HR9 := Lib.hid hr9; have HC9 := Lib.hid hc9; clear hr9 hc9))
  have hk89 : Keeps W8 W9 := keeps_chg (keeps_alloc (Keeps.refl _) _) HC9.out (Nat.le_refl _)
  have HK89 := Lib.hid hk89
  have HKA9 := Lib.hid (HK8.out.trans hk89)
  have HQ8 : Hid (W8.heap.size < W9.heap.size) := Lib.hid (HR9.out.lt (by simp))
  obtain ⟨q8, hq8⟩ : ∃ q, q = W8.heap.size := ⟨_, rfl⟩
  rw [← hq8] at HR9 HQ8 ⊢
  have HQE := Lib.hid hq8
  clear hk89 hq8 HC9
  have HS7 := Lib.hid (fun W (hk : Keeps W9 W) => rsame_any D D _ _ _ _ W ((HO8.out.keeps HK89.out).rtx.keeps hk) ((HOA.out.keeps HKA9.out).rtx.keeps hk))
  simp only [decide_true] at HS7
  have HRA9 := Lib.hid (HRA.out.keeps HKA9.out)
  go_upto_region 9 with (first | ((with_reducible refine gate_load 26 (.tmp 5) ?_); refine wpList_load_at rfl 26 (.tmp 5) rfl q8 0 rfl _ _ HR9.out Try.underlying26 rfl (sz_tx _ _ _ _) ?_) | ((with_reducible refine gate_load 26 (.tmp 2) ?_); refine wpList_load_at rfl 26 (.tmp 2) rfl p 0 rfl _ _ HRA9.out Try.underlying26 rfl (sz_tx _ _ _ _) ?_) | (go_at_call 16; refine (HS7.out _ (Keeps.refl _)).mono ?_; rintro e W10 ⟨rfl, hk10⟩; have HK10 := Lib.hid hk10; clear hk10))
  have HCP := Lib.hid (rtcopy_any AnyB AnyB AnyB D _ _ W10 ((HOA.out.keeps HKA9.out).rtx.keeps HK10.out))
  have HRA10 := Lib.hid (HRA9.out.keeps HK10.out)
  go_upto_region 10 with (first | ((with_reducible refine gate_load 26 (.tmp 2) ?_); refine wpList_load_at rfl 26 (.tmp 2) rfl p 0 rfl _ _ HRA10.out Try.underlying26 rfl (sz_tx _ _ _ _) ?_) | (go_at_call 18; refine HCP.out.mono ?_; rintro e W11 ⟨iv11, ov11, rfl, hk11, S11, T11, ho11⟩; obtain ⟨ia11, ic11, rfl, -⟩ := ho11.rtx.ins.any; obtain ⟨oa11, oc11, rfl, -⟩ := ho11.rtx.outs.any; have HK11 := Lib.hid hk11; have HO11 := Lib.hid ho11; clear hk11 ho11) | ((with_reducible refine gate_store 26 (.tmp 6) (.tmp 39) ?_); refine wpList_store_row rfl 26 (.tmp 6) (.tmp 39) rfl _ 0 rfl _ [.int .i32 D.ver, .slice ia11 _ ic11, .slice oa11 _ oc11, .int .u32 D.lock] rfl (Row.new [.int .i32 0, .slice none 0 0, .slice none 0 0, .int .u32 0] _ _ rfl) rfl (sz_tx _ _ _ _) (four_one _ _ _ _ _ _ _ _) ?_; intro W12 hr12 hc12; have HR12 := Lib.hid hr12; have HC12 := Lib.hid hc12; clear hr12 hc12))
  have hst : Keeps w W12 ∧ Row W12 p 0 [.int .i32 D.ver, .slice ia3 D.ins.length ic3, .slice oa3 D.outs.length oc3, .int .u32 D.lock] ∧ Row W12 q8 0 [.int .i32 D.ver, .slice ia8 D.ins.length ic8, .slice oa8 D.outs.length oc8, .int .u32 D.lock] ∧
      OwnTx S3 T3 (p + 2) W12 (.slice ia3 D.ins.length ic3) (.slice oa3 D.outs.length oc3) D ∧ OwnTx S8 T8 WA.heap.size W12 (.slice ia8 D.ins.length ic8) (.slice oa8 D.outs.length oc8) D ∧ OwnTx S11 T11 W10.heap.size W12 (.slice ia11 D.ins.length ic11) (.slice oa11 D.outs.length oc11) D ∧
      (∀ g, XB S3 T3 (.slice ia3 D.ins.length ic3) (.slice oa3 D.outs.length oc3) g → g < WA.heap.size) ∧ (∀ g, XB S8 T8 (.slice ia8 D.ins.length ic8) (.slice oa8 D.outs.length oc8) g → WA.heap.size ≤ g ∧ g < q8) ∧ (∀ g, XB S11 T11 (.slice ia11 D.ins.length ic11) (.slice oa11 D.outs.length oc11) g → q8 < g ∧ g < W11.heap.size) ∧ p < WA.heap.size ∧ q8 < W11.heap.size := by
    have hk1112 : Keeps W11 W12 := keeps_chg (keeps_alloc (Keeps.refl _) _) HC12.out (Nat.le_refl _)
    have k9 : Keeps W9 W12 := (HK10.out.trans HK11.out).trans hk1112
    have s8 := HK8.out.size; have s89 := HK89.out.size; have s10 := HK10.out.size; have s11 := HK11.out.size
    have q1 := HQ8.out; have q2 := HQE.out
    have hp := HRA.out.lt (by simp)
    refine ⟨HKW.out.trans (HKA9.out.trans k9), HRA9.out.keeps k9, HR9.out.keeps k9, HOA.out.keeps (HKA9.out.trans k9), (HO8.out.keeps HK89.out).keeps k9, HO11.out.keeps hk1112, fun g hg => (HOA.out.fresh g hg).2, fun g hg => ?_, fun g hg => ?_, hp, by omega⟩
    · have := HO8.out.fresh g hg; omega
    · have := HO11.out.fresh g hg; omega
  obtain ⟨hkw, hra, hrc, hot, hoc, how, hxt, hxc, hxw, hpa, hq8⟩ := hst
  have HKW2 := Lib.hid hkw; have HRT := Lib.hid hra; have HRC := Lib.hid hrc; have HOT := Lib.hid hot; have HOC := Lib.hid hoc; have HOW := Lib.hid how; have HXT := Lib.hid hxt; have HXC := Lib.hid hxc; have HXW := Lib.hid hxw; have HPA := Lib.hid hpa; have HQ := Lib.hid hq8
  clear hkw hra hrc hot hoc how hxt hxc hxw hpa hq8 HKW HKA9 HK8 HK10 HK11 HK89 HO8 HO11 HOA HRA HRA9 HRA10 HCP HCL HS7 HR9 HC12 HQ8 HQE
  generalize W11.heap.size = q11 at *
  have hn : D.ins.length * 96 ≤ 140737488355328 := by obtain ⟨_, _, hq, _⟩ := HOC.out.ins; exact hq.small
  have hno : D.outs.length * 32 ≤ 140737488355328 := by obtain ⟨_, _, hq⟩ := HOC.out.outs; exact hq.small
  obtain ⟨N, hN⟩ : ∃ N, N = D.ins.length := ⟨_, rfl⟩
  obtain ⟨M, hM⟩ : ∃ M, M = D.outs.length := ⟨_, rfl⟩
  have HN := Lib.hid hN; have HM := Lib.hid hM
  rw [← hN] at hn HRC HOC HXC
  rw [← hM] at hno HRC HOC HXC
  clear hN hM
  obtain ⟨XS, hXS⟩ : ∃ X, X = XB S8 T8 (.slice ia8 N ic8) (.slice oa8 M oc8) := ⟨_, rfl⟩
  have HXS := Lib.hid hXS
  rw [← hXS] at HXC
  have hcx : ∀ g, S8 g → XS g := fun g h => by rw [hXS]; exact .inl h
  have hcx2 : ∀ g, T8 g → XS g := fun g h => by rw [hXS]; exact .inr (.inl h)
  have hcx3 : ∀ g, (Value.slice ia8 N ic8).ownBlock = some g → XS g := fun g h => by rw [hXS]; exact .inr (.inr (.inl h))
  have hcx4 : ∀ g, (Value.slice oa8 M oc8).ownBlock = some g → XS g := fun g h => by rw [hXS]; exact .inr (.inr (.inr h))
  have HX1 := Lib.hid hcx; have HX2 := Lib.hid hcx2; have HX3 := Lib.hid hcx3; have HX4 := Lib.hid hcx4
  have hcell : ∀ W, Chg XS W12 W → W.cell? ⟨q8, 1, none⟩ = some (.slice ia8 N ic8) ∧ W.cell? ⟨q8, 2, none⟩ = some (.slice oa8 M oc8) := fun W hc => by
    obtain ⟨_, h1, h2, _⟩ := (HRC.out.chg hc (fun hx => by have := HXC.out _ hx; omega)).cell4
    exact ⟨h1, h2⟩
  have HCE := Lib.hid hcell
  clear hcell hcx hcx2 hcx3 hcx4 hXS
  obtain ⟨b1, -⟩ := HCE.out _ (Chg.refl _ _)
  go_wp2
  go_loopw [43] (fun c wr => ∃ i : Nat, i ≤ N ∧ c = .int .i64 i ∧ Hid (Chg XS W12 wr) ∧ ∃ dc, Hid (OwnTx S8 T8 WA.heap.size wr (.slice ia8 N ic8) (.slice oa8 M oc8) dc) ∧ Hid (dc.ins.length = N ∧ dc.outs.length = M)) (fun c _ => (N - intOf c).toNat)
  case atStart => exact ⟨0, by omega, rfl, Lib.hid (Chg.refl _ _), D, HOC, Lib.hid ⟨HN.out.symm, HM.out.symm⟩⟩
  case round =>
    obtain ⟨i, hi, rfl, HCH, dc, HDC, HLN⟩ := hrel
    clear b1
    by_cases hlt : i < N
    · obtain ⟨x, hdx⟩ : ∃ x, dc.ins[i]? = some x := ⟨_, List.getElem?_eq_getElem (by rw [HLN.out.1]; exact hlt)⟩
      obtain ⟨g, off, sv, wv, e2, hg, hrow, hrin⟩ := HDC.out.at hdx
      subst e2
      obtain ⟨b1, -⟩ := HCE.out _ HCH.out
      obtain ⟨f33, f35, f34⟩ := at_free hrow hrin.ok.hashLen
      obtain ⟨c32, c33, c34, c35⟩ := at_index hrow hrin.ok.hashLen
      have HROW := Lib.hid hrow; have HRIN := Lib.hid hrin; have HDX := Lib.hid hdx
      clear hrow hrin hdx c32 c33 c35 f33 f35
      go_upto_region 14 with (fail)
      have hown := HDC.out.putIn HDX.out HROW.out 34 (.int .u32 ((x.seq + 1) % 4294967296)) { x with seq := (x.seq + 1) % 4294967296 } sv wv (by omega) (inCells_set34 x sv wv _ HRIN.out.ok.hashLen) ⟨⟨HRIN.out.ok.hashLen, HRIN.out.ok.hash, HRIN.out.ok.index, u32_mod _⟩, HRIN.out.script, HRIN.out.wit⟩ (.inl rfl)
      obtain ⟨sa, sc, rfl, -⟩ := HRIN.out.script.any
      obtain ⟨wa, wc, rfl, -⟩ := HRIN.out.wit.any
      have hxg : XS g := HX3.out g rfl
      have hch14 : Chg XS W12 (wr.setCell ⟨g, off + i * 36 + 34, none⟩ (.int .u32 ((x.seq + 1) % 4294967296))) := HCH.out.setCell (p := ⟨g, off + i * 36 + 34, none⟩) (.inr hxg) _
      have hil : i < dc.ins.length := by rw [HLN.out.1]; exact hlt
      have hd1 : (dc.ins.set i { x with seq := (x.seq + 1) % 4294967296 })[i]? = some { x with seq := (x.seq + 1) % 4294967296 } := List.getElem?_set_self hil
      obtain ⟨dc1, hdc1⟩ : ∃ e : TxD, e = { dc with ins := dc.ins.set i { x with seq := (x.seq + 1) % 4294967296 } } := ⟨_, rfl⟩
      obtain ⟨x1, hx1⟩ : ∃ e : InD, e = { x with seq := (x.seq + 1) % 4294967296 } := ⟨_, rfl⟩
      have hl1 : dc1.ins.length = N ∧ dc1.outs.length = M := by rw [hdc1]; exact ⟨by simpa using HLN.out.1, HLN.out.2⟩
      have hd1' : dc1.ins[i]? = some x1 := by rw [hdc1, hx1]; exact hd1
      have hs1 : x.script.length = x1.script.length := by rw [hx1]
      have hw1 : x.wit.length = x1.wit.length := by rw [hx1]
      rw [← hdc1] at hown
      have hrow1 : Row (wr.setCell ⟨g, off + i * 36 + 34, none⟩ (.int .u32 ((x.seq + 1) % 4294967296))) g (off + i * 36) (inCells x1 (.slice sa x.script.length sc) (.slice wa x.wit.length wc)) := by
        have := HROW.out.set 34 (by rw [inCells_length _ _ _ HRIN.out.ok.hashLen]; omega) (.int .u32 ((x.seq + 1) % 4294967296))
        rw [inCells_set34 x _ _ _ HRIN.out.ok.hashLen] at this
        rw [hx1]; exact this
      have hrin1 : RIn S8 T8 (wr.setCell ⟨g, off + i * 36 + 34, none⟩ (.int .u32 ((x.seq + 1) % 4294967296))) (.slice sa x.script.length sc) (.slice wa x.wit.length wc) x1 := by
        have hx := HRIN.out.chg (Chg.cell (W := wr) g (off + i * 36 + 34) (.int .u32 ((x.seq + 1) % 4294967296))) (fun b hb e => HDC.out.iapart b (.inl hb) (by rw [e]; rfl)) (fun b hb e => HDC.out.iapart b (.inr hb) (by rw [e]; rfl))
        rw [hx1]
        exact ⟨⟨hx.ok.hashLen, hx.ok.hash, hx.ok.index, u32_mod _⟩, hx.script, hx.wit⟩
      rw [hs1, hw1] at hrow1 hrin1
      have hnS : ¬ S8 g := fun hs => HDC.out.iapart g (.inl hs) rfl
      clear hd1 hdc1 hx1 hs1 hw1 HROW HRIN HDC HDX HLN HCH b1 c34 f34 hil hxg
      generalize wr.setCell ⟨g, off + i * 36 + 34, none⟩ (.int .u32 ((x.seq + 1) % 4294967296)) = WB at *
      have HOB := Lib.hid hown; have HCB := Lib.hid hch14; have HD1 := Lib.hid hd1'; have HL1 := Lib.hid hl1; have HRW := Lib.hid hrow1; have HRI := Lib.hid hrin1; have HNS := Lib.hid hnS
      clear hown hch14 hd1' hl1 hrow1 hrin1 hnS
      have hsm : x1.script.length ≤ 140737488355328 := HRI.out.script.small
      have hwm : x1.wit.length * 24 ≤ 140737488355328 := by obtain ⟨_, hq⟩ := HRI.out.wit; exact hq.small
      obtain ⟨b1, -⟩ := HCE.out _ HCB.out
      obtain ⟨-, c33, -, -⟩ := at_index HRW.out HRI.out.ok.hashLen
      go_wp2
      go_loopw [62] (fun c wr => ∃ k : Nat, k ≤ x1.script.length ∧ c = .int .i64 k ∧ Hid (ByteStep S8 WB wr)) (fun c _ => (x1.script.length - intOf c).toNat)
      case atStart => exact ⟨0, by omega, rfl, Lib.hid (ByteStep.refl _ _)⟩
      case round =>
        obtain ⟨k, hk, rfl, HBS⟩ := hrel
        clear b1 c33
        obtain ⟨b1, -⟩ := HCE.out _ (HCB.out.trans (HBS.out.chg.mono (fun g _ h => HX1.out g h)))
        obtain ⟨-, c33, -, c35⟩ := at_index (HRW.out.chg HBS.out.chg HNS.out) HRI.out.ok.hashLen
        by_cases hltk : k < x1.script.length
        · obtain ⟨gs, os, y, z, e9, hsg, hcy, hfy, hz, hbs⟩ := HRI.out.script.byteAt HBS.out hltk
          subst e9
          have HB2 := Lib.hid hbs
          clear hbs c35
          go_wp2
          go_roundw
          case rel => exact ⟨k + 1, by omega, by go_num, HB2⟩
          case measure => simp [intOf]; omega
        · obtain rfl : k = x1.script.length := by omega
          obtain ⟨dc2, hd2, -, -, e1, e2, e3⟩ := HOB.out.bytesAt HBS.out
          obtain ⟨x2, hx2, hw2⟩ := e3 i x1 HD1.out
          have HO2 := Lib.hid hd2; have HX2' := Lib.hid hx2
          have HL2 := Lib.hid (show dc2.ins.length = N ∧ dc2.outs.length = M from ⟨e1.trans HL1.out.1, e2.trans HL1.out.2⟩)
          have HCC := Lib.hid (HCB.out.trans (HBS.out.chg.mono (fun g _ h => HX1.out g h)))
          clear hd2 e1 e2 e3 hx2 HOB HCB HRI HRW HBS HL1 c33
          generalize wr = WC at *
          go_wp2
          go_loopw [84] (fun c wr => ∃ k : Nat, k ≤ x1.wit.length ∧ c = .int .i64 k ∧ Hid (Chg XS W12 wr) ∧ ∃ dc x, Hid (OwnTx S8 T8 WA.heap.size wr (.slice (some ⟨g, off, none⟩) N ic8) (.slice oa8 M oc8) dc) ∧ Hid (dc.ins.length = N ∧ dc.outs.length = M) ∧ Hid (dc.ins[i]? = some x) ∧ Hid (x.wit.length = x1.wit.length)) (fun c _ => (x1.wit.length - intOf c).toNat)
          case atStart => exact ⟨0, by omega, rfl, HCC, dc2, x2, HO2, HL2, HX2', Lib.hid hw2⟩
          case round =>
            obtain ⟨k, hk, rfl, HCH, dc, x, HDC, HLN, HDX, HWL⟩ := hrel
            clear b1 c35
            by_cases hltk : k < x1.wit.length
            · obtain ⟨g', off', sv, wv, e2, hg', hrow, hrin⟩ := HDC.out.at HDX.out
              obtain ⟨rfl, rfl⟩ : g' = g ∧ off' = off := by have := Option.some.inj e2; simp at this; exact ⟨this.1.symm, this.2.symm⟩
              obtain ⟨wa9, wc9, e9, -⟩ := hrin.wit.any
              rw [HWL.out] at e9
              subst e9
              obtain ⟨gw, ow, u, e10, hgw, hcu, hru⟩ := hrin.wit.at k (by rw [HWL.out]; exact hltk)
              subst e10
              obtain ⟨L, hL⟩ : ∃ L, L = x.wit.getD k [] := ⟨_, rfl⟩
              rw [← hL] at hru
              clear hL
              obtain ⟨ua, uc, rfl, -⟩ := hru.any
              have hTg : T8 gw := hrin.wit.foot gw rfl
              have HROW := Lib.hid hrow; have HRIN := Lib.hid hrin; have HRU := Lib.hid hru; have HTG := Lib.hid hTg
              have HFS := Lib.hid (show ∀ W, ByteStep S8 wr W → Chg XS W12 W ∧ W.cell? ⟨q8, 1, none⟩ = some (.slice (some ⟨g', off', none⟩) N ic8) ∧ W.cell? ⟨g', off' + i * 36 + 35, none⟩ = some (.slice (some ⟨gw, ow, none⟩) x1.wit.length wc9) ∧ W.cell? ⟨gw, ow + k, none⟩ = some (.slice ua L.length uc) from fun W hb => by
                have h1 := HCH.out.trans (hb.chg.mono (fun g _ h => HX1.out g h))
                have h2 := (at_index (hrow.chg hb.chg HNS.out) hrin.ok.hashLen).2.2.2
                have h3 := (World.cell?_of_block (w := wr) (w' := W) (a := ⟨gw, ow + k, none⟩) (hb.chg.block gw hgw (fun hs => HDC.out.st gw hs hTg))).trans hcu
                exact ⟨h1, (HCE.out W h1).1, h2, h3⟩)
              obtain ⟨-, b1, c35, cu⟩ := HFS.out _ (ByteStep.refl _ _)
              have hLs : L.length ≤ 140737488355328 := HRU.out.small
              clear hrow hrin hru hTg hcu
              go_wp2
              generalize wr = WD at *
              go_loopw [97] (fun c wr => ∃ j : Nat, j ≤ L.length ∧ c = .int .i64 j ∧ Hid (ByteStep S8 WD wr)) (fun c _ => (L.length - intOf c).toNat)
              case atStart => exact ⟨0, by omega, rfl, Lib.hid (ByteStep.refl _ _)⟩
              case round =>
                obtain ⟨j, hj, rfl, HBS⟩ := hrel
                clear b1 c35 cu
                obtain ⟨hch, b1, c35, cu⟩ := HFS.out _ HBS.out
                have HCHJ := Lib.hid hch
                clear hch
                by_cases hltj : j < L.length
                · obtain ⟨gs, os, y, z, e9, hsg, hcy, hfy, hz, hbs⟩ := HRU.out.byteAt HBS.out hltj
                  subst e9
                  have HB2 := Lib.hid hbs
                  clear hbs
                  go_wp2
                  go_roundw
                  case rel => exact ⟨j + 1, by omega, by go_num, HB2⟩
                  case measure => simp [intOf]; omega
                · obtain rfl : j = L.length := by omega
                  obtain ⟨dc3, hd3, -, -, e1, e2, e3⟩ := HDC.out.bytesAt HBS.out
                  obtain ⟨x3, hx3, hw3⟩ := e3 i x HDX.out
                  obtain ⟨g9, off9, sv3, wv3, e4, hg3, hrow3, hrin3⟩ := hd3.at hx3
                  obtain ⟨rfl, rfl⟩ : g' = g9 ∧ off' = off9 := by have := Option.some.inj e4; simp at this; exact this
                  have hwe : wv3 = .slice (some ⟨gw, ow, none⟩) x1.wit.length wc9 := by
                    have h1 := (at_index hrow3 hrin3.ok.hashLen).2.2.2
                    rw [c35] at h1
                    exact (Option.some.inj h1).symm
                  subst hwe
                  have hfw : wr.frozen? ⟨gw, ow + k, none⟩ = false := by
                    obtain ⟨vs, hq⟩ := hrin3.wit
                    obtain ⟨g5, o5, u5, h1, _, _, h2, _⟩ := hq.at k (by rw [hw3, HWL.out]; exact hltk)
                    cases h1
                    exact h2
                  have hput := hd3.putItem hx3 hrow3 hrin3 k (by rw [hw3, HWL.out]; exact hltk) (.slice none 0 0) [] (rb_none _ _)
                  have hch2 : Chg XS W12 (wr.setCell ⟨gw, ow + k, none⟩ (.slice none 0 0)) := HCHJ.out.setCell (p := ⟨gw, ow + k, none⟩) (.inr (HX2.out gw HTG.out)) _
                  have hl3 : dc3.ins.length = N ∧ dc3.outs.length = M := ⟨e1.trans HLN.out.1, e2.trans HLN.out.2⟩
                  have hfin : ∃ dc x, Hid (OwnTx S8 T8 WA.heap.size (wr.setCell ⟨gw, ow + k, none⟩ (.slice none 0 0)) (.slice (some ⟨g', off', none⟩) N ic8) (.slice oa8 M oc8) dc) ∧ Hid (dc.ins.length = N ∧ dc.outs.length = M) ∧ Hid (dc.ins[i]? = some x) ∧ Hid (x.wit.length = x1.wit.length) :=
                    ⟨_, _, Lib.hid hput, Lib.hid ⟨by simpa using hl3.1, hl3.2⟩, Lib.hid (List.getElem?_set_self (List.getElem?_eq_some_iff.1 hx3).1), Lib.hid (by simp [hw3, HWL.out])⟩
                  have HFIN := Lib.hid hfin; have HC2 := Lib.hid hch2
                  clear hfin hch2 hput hl3 hrow3 hrin3 hd3 e1 e2 e3 hx3 hw3
                  go_wp2
                  go_roundw
                  case rel => exact ⟨k + 1, by omega, by go_num, HC2, HFIN.out⟩
                  case measure => simp [intOf]; omega
            · obtain rfl : k = x1.wit.length := by omega
              go_wp2
              go_roundw
              case rel => exact ⟨i + 1, by omega, by go_num, HCH, dc, HDC, HLN⟩
              case measure => simp [intOf]; omega
    · obtain rfl : N = i := by omega
      generalize wr = WB at *
      obtain ⟨-, b2⟩ := HCE.out _ HCH.out
      go_wp2
      go_loopw [128] (fun c wr => ∃ i : Nat, i ≤ M ∧ c = .int .i64 i ∧ Hid (Chg XS W12 wr) ∧ ∃ dc, Hid (OwnTx S8 T8 WA.heap.size wr (.slice ia8 N ic8) (.slice oa8 M oc8) dc) ∧ Hid (dc.ins.length = N ∧ dc.outs.length = M)) (fun c _ => (M - intOf c).toNat)
      case atStart => exact ⟨0, by omega, rfl, HCH, dc, HDC, HLN⟩
      case round =>
        obtain ⟨i, hi, rfl, HCI, dd, HDD, HLD⟩ := hrel
        clear b2
        by_cases hlt : i < M
        · obtain ⟨x, hdx⟩ : ∃ x, dd.outs[i]? = some x := ⟨_, List.getElem?_eq_getElem (by rw [HLD.out.2]; exact hlt)⟩
          obtain ⟨g, off, sv, e2, hg, hrow, hrb, hi64⟩ := HDD.out.atOut hdx
          subst e2
          obtain ⟨-, b2⟩ := HCE.out _ HCI.out
          obtain ⟨c0, -⟩ := at_value hrow
          have f0 : wr.frozen? ⟨g, off + i * 2, none⟩ = false := by have := (hrow 0 _ rfl).2; simpa using this
          have HROW := Lib.hid hrow; have HRB := Lib.hid hrb; have HDX := Lib.hid hdx
          obtain ⟨z, hz⟩ : ∃ z, IntKind.i64.wrap (x.value + 1) = z := ⟨_, rfl⟩
          have HZ : Hid (I64 z) := Lib.hid (by rw [← hz]; exact i64_wrap _)
          clear hrow hrb hdx
          go_upto_region 34 with (fail)
          clear hz
          have hown := HDD.out.putOut HDX.out HROW.out 0 (.int .i64 z) ⟨z, x.script⟩ sv (by omega) rfl HRB.out HZ.out
          rw [Nat.add_zero] at hown
          obtain ⟨sa, sc, rfl, -⟩ := HRB.out.any
          have hxg : XS g := HX4.out g rfl
          have hch14 : Chg XS W12 (wr.setCell ⟨g, off + i * 2, none⟩ (.int .i64 z)) := HCI.out.setCell (p := ⟨g, off + i * 2, none⟩) (.inr hxg) _
          have hil : i < dd.outs.length := by rw [HLD.out.2]; exact hlt
          have hl1 : dd.ins.length = N ∧ (dd.outs.set i ⟨z, x.script⟩).length = M := ⟨HLD.out.1, by simpa using HLD.out.2⟩
          have hrow1 : Row (wr.setCell ⟨g, off + i * 2, none⟩ (.int .i64 z)) g (off + i * 2) (outCells ⟨z, x.script⟩ (.slice sa x.script.length sc)) := by
            have := HROW.out.set 0 (by simp [outCells]) (.int .i64 z)
            exact this
          have hrb1 := HRB.out.chg (Chg.cell (W := wr) g (off + i * 2) (.int .i64 z)) (fun b hb e => HDD.out.oapart b (.inl hb) (by rw [e]; rfl))
          have hnS : ¬ S8 g := fun hs => HDD.out.oapart g (.inl hs) rfl
          obtain ⟨d1, hd1⟩ : ∃ e : TxD, e = { dd with outs := dd.outs.set i ⟨z, x.script⟩ } := ⟨_, rfl⟩
          have hl2 : d1.ins.length = N ∧ d1.outs.length = M := by rw [hd1]; exact hl1
          rw [← hd1] at hown
          clear hl1 hd1 HROW HRB HDD HDX HLD HCI b2 c0 f0 hil hxg
          generalize wr.setCell ⟨g, off + i * 2, none⟩ (.int .i64 z) = WC at *
          have HOB := Lib.hid hown; have HCB := Lib.hid hch14; have HL1 := Lib.hid hl2; have HRW := Lib.hid hrow1; have HRI := Lib.hid hrb1; have HNS := Lib.hid hnS
          clear hown hch14 hl2 hrow1 hrb1 hnS
          have hsm : x.script.length ≤ 140737488355328 := HRI.out.small
          obtain ⟨-, b2⟩ := HCE.out _ HCB.out
          obtain ⟨-, c1⟩ := at_value HRW.out
          go_wp2
          go_loopw [147] (fun c wr => ∃ k : Nat, k ≤ x.script.length ∧ c = .int .i64 k ∧ Hid (ByteStep S8 WC wr)) (fun c _ => (x.script.length - intOf c).toNat)
          case atStart => exact ⟨0, by omega, rfl, Lib.hid (ByteStep.refl _ _)⟩
          case round =>
            obtain ⟨k, hk, rfl, HBS⟩ := hrel
            clear b2 c1
            obtain ⟨-, b2⟩ := HCE.out _ (HCB.out.trans (HBS.out.chg.mono (fun g _ h => HX1.out g h)))
            obtain ⟨-, c1⟩ := at_value (HRW.out.chg HBS.out.chg HNS.out)
            by_cases hltk : k < x.script.length
            · obtain ⟨gs, os, y, z2, e9, hsg, hcy, hfy, hz, hbs⟩ := HRI.out.byteAt HBS.out hltk
              subst e9
              have HB2 := Lib.hid hbs
              clear hbs
              go_wp2
              go_roundw
              case rel => exact ⟨k + 1, by omega, by go_num, HB2⟩
              case measure => simp [intOf]; omega
            · obtain rfl : x.script.length = k := by omega
              obtain ⟨d2, hd2, -, -, e1, e2, -⟩ := HOB.out.bytesAt HBS.out
              have HO2 := Lib.hid hd2
              have HL2 := Lib.hid (show d2.ins.length = N ∧ d2.outs.length = M from ⟨e1.trans HL1.out.1, e2.trans HL1.out.2⟩)
              have HCC := Lib.hid (HCB.out.trans (HBS.out.chg.mono (fun g _ h => HX1.out g h)))
              clear hd2 e1 e2
              go_wp2
              go_roundw
              case rel => exact ⟨i + 1, by omega, by go_num, HCC, d2, HO2, HL2⟩
              case measure => simp [intOf]; omega
        · obtain rfl : M = i := by omega
          have hrt : RTx AnyB AnyB AnyB wr (.slice ia3 D.ins.length ic3) (.slice oa3 D.outs.length oc3) D := by
            have h3 := HOT.out
            have hx : ∀ g, XB S3 T3 (.slice ia3 D.ins.length ic3) (.slice oa3 D.outs.length oc3) g → ¬ XS g := fun g h1 h2 => by
              have a := HXT.out g h1; have b := HXC.out g h2; omega
            exact ⟨h3.ver, h3.lock, (h3.ins.chg HCI.out (fun g hg => hx g (.inl hg)) (fun g hg => hx g (.inr (.inl hg))) (fun g hg => hx g (.inr (.inr (.inl hg))))).x.mono (fun _ _ => trivial) (fun _ _ => trivial) (fun _ _ => trivial), (h3.outs.chg HCI.out (fun g hg => hx g (.inl hg)) (fun g hg => hx g (.inr (.inr (.inr hg))))).mono (fun _ _ => trivial) (fun _ _ => trivial)⟩
          have hrw : RTx AnyB AnyB AnyB wr (.slice ia11 D.ins.length ic11) (.slice oa11 D.outs.length oc11) D := by
            have h3 := HOW.out
            have hx : ∀ g, XB S11 T11 (.slice ia11 D.ins.length ic11) (.slice oa11 D.outs.length oc11) g → ¬ XS g := fun g h1 h2 => by
              have a := HXW.out g h1; have b := HXC.out g h2; omega
            exact ⟨h3.ver, h3.lock, (h3.ins.chg HCI.out (fun g hg => hx g (.inl hg)) (fun g hg => hx g (.inr (.inl hg))) (fun g hg => hx g (.inr (.inr (.inl hg))))).x.mono (fun _ _ => trivial) (fun _ _ => trivial) (fun _ _ => trivial), (h3.outs.chg HCI.out (fun g hg => hx g (.inl hg)) (fun g hg => hx g (.inr (.inr (.inr hg))))).mono (fun _ _ => trivial) (fun _ _ => trivial)⟩
          have HS := Lib.hid (rsame_any D D _ _ _ _ wr hrt hrw)
          simp only [decide_true] at HS
          have HRt := Lib.hid (HRT.out.chg HCI.out (fun hx => by have a := HXC.out _ hx; have b := HPA.out; omega))
          have HRw := Lib.hid (HR12.out.chg HCI.out (fun hx => by have a := HXC.out _ hx; have b := HQ.out; omega))
          have hke : Keeps w wr := by
            refine Below.trans HKW2.out (HCI.out.below HKW2.out.size (fun g hg hx => ?_))
            have a := HXC.out _ hx; have b := HPA.out; have c := HPE.out; omega
          have HKE := Lib.hid hke
          clear hrt hrw hke HDD HLD HCI
          go_wp2_with (first | ((with_reducible refine gate_load 26 (.tmp 2) ?_); refine wpList_load_at rfl 26 (.tmp 2) rfl p 0 rfl _ _ HRt.out Try.underlying26 rfl (sz_tx _ _ _ _) ?_) | ((with_reducible refine gate_load 26 (.tmp 6) ?_); refine wpList_load_at rfl 26 (.tmp 6) rfl q11 0 rfl _ _ HRw.out Try.underlying26 rfl (sz_tx _ _ _ _) ?_) | (go_at_call 16; refine HS.out.mono ?_; rintro e W9 ⟨rfl, hk9⟩; have HK9 := Lib.hid hk9; clear hk9))
          go_ret
          exact ⟨by first | rfl | exact ret_bool (by simp), HKE.out.trans HK9.out⟩
end Go.Proofs.Ytjfkkdkmpnpmpaa
