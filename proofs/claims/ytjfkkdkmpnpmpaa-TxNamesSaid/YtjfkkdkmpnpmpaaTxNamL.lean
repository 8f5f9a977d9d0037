/- strongboxlaw09.TxNames: the walk. -/
import Derived.Test.YtjfkkdkmpnpmpaaTxNam
import Derived.Test.YtjfkkdkmpnpmpaaTxIds
import Derived.Test.YtjfkkdkmpnpmpaaTxWeighR
namespace Go.Proofs.Ytjfkkdkmpnpmpaa
set_option linter.unusedVariables false
set_option linter.unusedSimpArgs false
open Go Go.RowKit

/-- the copy whose witnesses are taken, one after the other -/
structure BareSt (S T : Nat → Prop) (w W : World) (p : Nat) (iv ov : Value) (d : TxD) : Prop where
  keeps : Keeps w W
  row : Row W p 0 [.int .i32 d.ver, iv, ov, .int .u32 d.lock]
  own : OwnTx S T w.heap.size W iv ov d
  low : w.heap.size ≤ p
  sep : ∀ g, iv.ownBlock = some g → g ≠ p
theorem BareSt.noWit {S T : Nat → Prop} {w W : World} {p g off n cap : Nat} {ov : Value} {d : TxD} (h : BareSt S T w W p (.slice (some ⟨g, off, none⟩) n cap) ov d) {i : Nat} {di : InD} {sv wv : Value} (hd : d.ins[i]? = some di) (hrow : Row W g (off + i * 36) (inCells di sv wv)) (hr : RIn S T W sv wv di) :
    BareSt S T w (W.setCell ⟨g, off + i * 36 + 35, none⟩ (.slice none 0 0)) p (.slice (some ⟨g, off, none⟩) n cap) ov { d with ins := d.ins.set i (bareIn di) } :=
  ⟨keeps_chg h.keeps (Chg.cell g _ _) (h.own.fresh g (.inr (.inr (.inl rfl)))).1, h.row.other (fun e => h.sep g rfl e.symm) _,
    h.own.putIn hd hrow 35 _ (bareIn di) sv (.slice none 0 0) (by omega) (inCells_set35 _ _ _ _ _ hr.ok.hashLen) ⟨⟨hr.ok.hashLen, hr.ok.hash, hr.ok.index, hr.ok.seq⟩, hr.script, rll_none S T W⟩ (.inr rfl), h.low, h.sep⟩
set_option maxRecDepth 100000 in
set_option maxHeartbeats 8000000 in
theorem names_any (d : TxD) (iv ov : Value) (w : World) (h : RTx AnyB AnyB AnyB w iv ov d) :
    Calls Try.prog 5 #[.agg #[.int .i32 d.ver, iv, ov, .int .u32 d.lock]] w fun e w' => e = .returned (.bool true) ∧ Keeps w w' := by
  have HT := Lib.hid h
  have h32 : d.ins.all (fun i => i.hash.length == 32) = true := by
    obtain ⟨cs, ps, hi⟩ := h.ins
    rw [List.all_eq_true]
    intro x hx
    obtain ⟨k, hk, e⟩ := List.getElem_of_mem hx
    have hp : ps[k]? = some (ps[k]'(by rw [hi.plen]; exact hk)) := List.getElem?_eq_getElem _
    have := (hi.each k _ x hp (by rw [List.getElem?_eq_getElem hk, e])).1.ok.hashLen
    simpa using this
  have HFIT := Lib.hid (fits_few d h32)
  obtain ⟨ia, ic, rfl, -⟩ := h.ins.any
  obtain ⟨oa, oc, rfl, -⟩ := h.outs.any
  clear h h32
  have HF := Lib.hid (fun W (hk : Keeps w W) => few_any d _ _ W (HT.out.keeps hk))
  have HAW := Lib.hid awake_any
  have hver : (fewD 10 600 d).ver = d.ver := rfl
  have hlock : (fewD 10 600 d).lock = d.lock := rfl
  obtain ⟨D, hD⟩ : ∃ D, D = fewD 10 600 d := ⟨_, rfl⟩
  rw [← hD] at hver hlock
  rw [← hD] at HFIT
  rw [← hD] at HF
  clear hD
  rw [← hver, ← hlock]
  rw [← hver, ← hlock] at HF
  have HV := Lib.hid hver; have HLK := Lib.hid hlock
  clear hver hlock
  generalize (Value.slice ia d.ins.length ic) = iv0 at *
  generalize (Value.slice oa d.outs.length oc) = ov0 at *
  go_enter Try.func5, Try.ntmps5
  go_upto_region 1 with (fail)
  refine wp_rows1 (fun W0 hk hr1 hs1 => ?_)
  simp only at hr1
  have HK := Lib.hid hk; have HR := Lib.hid hr1
  have hp : w.heap.size < W0.heap.size := by omega
  have HP := Lib.hid hp
  obtain ⟨p, hpe⟩ : ∃ p, p = w.heap.size := ⟨_, rfl⟩
  rw [← hpe] at HR HP ⊢
  have HPE := Lib.hid hpe
  clear hk hr1 hs1 hp hpe
  go_upto_region 4 with (first | (go_at_call 7; refine (HAW.out _).mono ?_; rintro e W2 ⟨rfl, hk2⟩; have HK2 := Lib.hid hk2; clear hk2) | (refine wpList_load_at rfl 26 (.tmp 1) rfl p 0 rfl _ _ (HR.out.keeps HK2.out) Try.underlying26 rfl (sz_tx _ _ _ _) ?_) | (go_at_call 8; refine (HF.out _ (HK.out.trans HK2.out)).mono ?_; rintro e W3 ⟨iv3, ov3, rfl, hk3, S3, T3, ho3⟩; obtain ⟨ia3, ic3, rfl, -⟩ := ho3.rtx.ins.any; obtain ⟨oa3, oc3, rfl, -⟩ := ho3.rtx.outs.any; have HK3 := Lib.hid hk3; have HO3 := Lib.hid ho3; clear hk3 ho3) | (refine wpList_store_row rfl 26 (.tmp 1) (.tmp 9) rfl p 0 rfl _ [.int .i32 D.ver, .slice ia3 _ ic3, .slice oa3 _ oc3, .int .u32 D.lock] rfl ((HR.out.keeps HK2.out).keeps HK3.out) rfl (sz_tx _ _ _ _) (by intro v hv; simp only [List.mem_cons, List.not_mem_nil, or_false] at hv; rcases hv with rfl | rfl | rfl | rfl <;> rfl) ?_; intro W7 hr7 hc7; have HR7 := Lib.hid hr7; have HC7 := Lib.hid hc7; clear hr7 hc7))
  have hp := HP.out; have hpe := HPE.out
  have hsz2 := HK2.out.size; have hsz3 := HK3.out.size; have hszk := HK.out.size
  have hown : OwnTx S3 T3 W2.heap.size W7 _ _ D := HO3.out.chg HC7.out (fun g e => .inl (by rw [e]; omega))
  have hk7 : Keeps w W7 := keeps_chg ((HK.out.trans HK2.out).trans HK3.out) HC7.out (by omega)
  have hrt : RTx S3 T3 AnyB W7 _ _ D := ⟨hown.ver, hown.lock, hown.ins.x.mono (fun _ h => h) (fun _ h => h) (fun _ _ => trivial), hown.outs.mono (fun _ h => h) (fun _ _ => trivial)⟩
  have hS3 : ∀ g, S3 g → g < W7.heap.size := fun g hg => (hown.fresh g (.inl hg)).2
  have HRT := Lib.hid hrt; have HS3 := Lib.hid hS3; have HKW := Lib.hid hk7
  clear hown hrt hS3 hk7 HO3 HC7 HK2 HK3 HK HP HPE hp hpe hsz2 hsz3 hszk HF HAW HT HR HV HLK
  have HCP := Lib.hid (rtcopy_any S3 T3 AnyB D _ _ W7 HRT.out)
  go_upto_region 5 with (first | (refine wpList_load_at rfl 26 (.tmp 1) rfl p 0 rfl _ _ HR7.out Try.underlying26 rfl (sz_tx _ _ _ _) ?_) | (go_at_call 18; refine HCP.out.mono ?_; rintro e W8 ⟨iv8, ov8, rfl, hk8, S8, T8, ho8⟩; obtain ⟨ia8, ic8, rfl, -⟩ := ho8.rtx.ins.any; obtain ⟨oa8, oc8, rfl, -⟩ := ho8.rtx.outs.any; have HK8 := Lib.hid hk8; have HO8 := Lib.hid ho8; clear hk8 ho8) | (refine wpList_store_row rfl 26 (.tmp 3) (.tmp 11) rfl W8.heap.size 0 rfl _ [.int .i32 D.ver, .slice ia8 _ ic8, .slice oa8 _ oc8, .int .u32 D.lock] rfl (Row.new [.int .i32 0, .slice none 0 0, .slice none 0 0, .int .u32 0] _ _ rfl) rfl (sz_tx _ _ _ _) (by intro v hv; simp only [List.mem_cons, List.not_mem_nil, or_false] at hv; rcases hv with rfl | rfl | rfl | rfl <;> rfl) ?_; intro W9 hr9 hc9; have HR9 := Lib.hid hr9; have HC9 := Lib.hid hc9; clear hr9 hc9))
  have hst : BareSt S8 T8 W7 W9 W8.heap.size (.slice ia8 D.ins.length ic8) (.slice oa8 D.outs.length oc8) D :=
    ⟨keeps_chg (keeps_alloc HK8.out _) HC9.out HK8.out.size, HR9.out, HO8.out.chg (((keeps_alloc (Keeps.refl W8) _).chg (· = W8.heap.size)).trans HC9.out) (fun g e => .inr (by rw [e]; exact Nat.le_refl _)), HK8.out.size, fun g hg e => by have := (HO8.out.fresh g (.inr (.inr (.inl hg)))).2; omega⟩
  have HST := Lib.hid hst
  clear hst HR9 HC9 HO8 HK8 HCP
  generalize W8.heap.size = p8 at *
  obtain ⟨b0, b1, b2, b3⟩ := HST.out.row.cell4
  have hn : D.ins.length ≤ 140737488355328 := by obtain ⟨_, _, hq⟩ := HRT.out.ins; have := hq.small; omega
  obtain ⟨L, hL⟩ : ∃ L, L = D.ins := ⟨_, rfl⟩
  have HL := Lib.hid hL
  go_wp2
  go_loopw [15] (fun c wr => ∃ i : Nat, i ≤ D.ins.length ∧ c = .int .i64 i ∧ Hid (BareSt S8 T8 W7 wr p8 (.slice ia8 D.ins.length ic8) (.slice oa8 D.outs.length oc8) { D with ins := upto bareIn i L })) (fun c _ => (D.ins.length - intOf c).toNat)
  case atStart => exact ⟨0, by omega, rfl, Lib.hid (by rw [upto_zero, HL.out]; exact HST.out)⟩
  case round =>
    obtain ⟨i, hi, rfl, HSR⟩ := hrel
    clear b0 b1 b2 b3
    by_cases hlt : i < D.ins.length
    · obtain ⟨di, hdi⟩ : ∃ di, L[i]? = some di := ⟨L[i]'(by rw [HL.out]; exact hlt), List.getElem?_eq_getElem _⟩
      have hux := upto_get bareIn i L di hdi
      have hus := upto_step bareIn i L di hdi
      have HUX := Lib.hid hux; have HUS := Lib.hid hus
      clear hux hus hdi
      generalize upto bareIn i L = X at *
      obtain ⟨g, off, sv, wv, rfl, hg, hrow, hrin⟩ := HSR.out.own.at HUX.out
      obtain ⟨z33, z35, z34⟩ := at_free hrow hrin.ok.hashLen
      obtain ⟨b0, b1, b2, b3⟩ := HSR.out.row.cell4
      simp only at b0 b1 b2 b3
      have HROW := Lib.hid hrow; have HRIN := Lib.hid hrin
      obtain ⟨c32, c33, c34, c35⟩ := at_index hrow hrin.ok.hashLen
      clear hrow hrin
      go_wp2
      go_roundw
      case rel =>
        refine ⟨i + 1, by omega, by go_num, Lib.hid ?_⟩
        have h7 := HSR.out.noWit HUX.out HROW.out HRIN.out
        rw [← HUS.out]
        exact h7
      case measure => simp [intOf]; omega
    · obtain rfl : i = D.ins.length := by omega
      have hall : upto bareIn D.ins.length L = D.ins.map bareIn := by rw [HL.out, upto_all]
      rw [hall] at HSR
      clear hL HL hall
      have hlB := enc_le D true HFIT.out
      have HRA1 := Lib.hid (HR7.out.keeps HSR.out.keeps)
      have HEA := Lib.hid (fun W (hk : Keeps W7 W) => renc_any S3 T3 AnyB D _ _ true HFIT.out W (HRT.out.keeps hk))
      generalize wr = wA at *
      go_upto_region 11 with (first | (refine wpList_load_at rfl 26 (.tmp 1) rfl p 0 rfl _ _ HRA1.out Try.underlying26 rfl (sz_tx _ _ _ _) ?_) | (go_at_call 19; refine (HEA.out _ HSR.out.keeps).mono ?_; rintro e W10 ⟨v10, rfl, hO10⟩; obtain ⟨a10, c10, rfl⟩ := hO10.any; have HO10 := Lib.hid hO10; clear hO10))
      have hk10 : Keeps W7 W10 := HSR.out.keeps.trans HO10.out.keeps
      have hobr := (HSR.out.own.keeps HO10.out.keeps)
      have hrb : RTx S8 T8 AnyB W10 _ _ (bareD D) := ⟨hobr.ver, hobr.lock, hobr.ins.x.mono (fun _ h => h) (fun _ h => h) (fun _ _ => trivial), hobr.outs.mono (fun _ h => h) (fun _ _ => trivial)⟩
      have hS8 : ∀ g, S8 g → g < W10.heap.size := fun g hg => (hobr.fresh g (.inl hg)).2
      have hra := HRT.out.keeps hk10
      have hSa : ∀ g, S3 g → g < W10.heap.size := fun g hg => Nat.lt_of_lt_of_le (HS3.out g hg) hk10.size
      have HFB := Lib.hid (bare_fits HFIT.out)
      have HC1 := Lib.hid (fun W (hk : Keeps W10 W) => id_any S3 T3 AnyB D _ _ HFIT.out W (hra.keeps hk) (fun g hg => Nat.lt_of_lt_of_le (hSa g hg) hk.size))
      have HC2 := Lib.hid (fun W (hk : Keeps W10 W) => rid_any S3 T3 AnyB D _ _ HFIT.out W (hra.keeps hk))
      have HC3 := Lib.hid (fun W (hk : Keeps W10 W) => wid_any S3 T3 AnyB D _ _ HFIT.out W (hra.keeps hk) (fun g hg => Nat.lt_of_lt_of_le (hSa g hg) hk.size))
      have HC4 := Lib.hid (fun W (hk : Keeps W10 W) => renc_any S3 T3 AnyB D _ _ true HFIT.out W (hra.keeps hk))
      have HC5 := Lib.hid (fun W (hk : Keeps W10 W) => id_any S8 T8 AnyB (bareD D) _ _ HFB.out W (hrb.keeps hk) (fun g hg => Nat.lt_of_lt_of_le (hS8 g hg) hk.size))
      have HC6 := Lib.hid (fun W (hk : Keeps W10 W) => wid_any S8 T8 AnyB (bareD D) _ _ HFB.out W (hrb.keeps hk) (fun g hg => Nat.lt_of_lt_of_le (hS8 g hg) hk.size))
      have HC7 := Lib.hid (fun W (hk : Keeps W10 W) => size_any2 S3 T3 AnyB D _ _ HFIT.out W (hra.keeps hk) (fun g hg => Nat.lt_of_lt_of_le (hSa g hg) hk.size))
      have HC8 := Lib.hid (fun W (hk : Keeps W10 W) => weight_any S3 T3 AnyB D _ _ HFIT.out W (hra.keeps hk) (fun g hg => Nat.lt_of_lt_of_le (hSa g hg) hk.size))
      have HC9 := Lib.hid (fun W (hk : Keeps W10 W) => rweight_any S3 T3 AnyB D _ _ HFIT.out W (hra.keeps hk))
      have HCA := Lib.hid (fun W (hk : Keeps W10 W) => virtual_any S3 T3 AnyB D _ _ HFIT.out W (hra.keeps hk) (fun g hg => Nat.lt_of_lt_of_le (hSa g hg) hk.size))
      have HDB := Lib.hid (fun (W : World) (v : Value) (n : Nat) (hr : Rd W 1 v n ((encB D true).map (Value.int .u8))) (hn : n ≤ 35184372088832) => ref_double v n (encB D true) W hr (HRT.out.bytes true) hn)
      have hid5 : idD (bareD D) false = idD D false := by unfold idD; rw [bare_enc]
      have hid6 : idD (bareD D) true = idD D false := by unfold idD; rw [bare_enc]
      have hwd : sha256 (sha256 (encB D true)) = idD D true := rfl
      rw [hid5] at HC5
      rw [hid6] at HC6
      rw [hwd] at HDB
      have HE1 := Lib.hid (fun W => hash_equal W (idD D false) (idD D false) (sha_length _) (sha_bytes _) (sha_length _) (sha_bytes _))
      have HE2 := Lib.hid (fun W => hash_equal W (idD D true) (idD D true) (sha_length _) (sha_bytes _) (sha_length _) (sha_bytes _))
      simp only [decide_true] at HE1 HE2
      have HRA := Lib.hid (HRA1.out.keeps HO10.out.keeps)
      have HRB : Hid (Row W10 p8 0 [.int .i32 D.ver, .slice ia8 D.ins.length ic8, .slice oa8 D.outs.length oc8, .int .u32 D.lock]) := Lib.hid (HSR.out.row.keeps HO10.out.keeps)
      have HKZ := Lib.hid (HKW.out.trans hk10)
      have hlA := enc_le D false HFIT.out
      clear hk10 hobr hrb hS8 hra hSa HFB hid5 hid6 hwd HRA1 HEA HSR HRT HS3 HKW HR7 HFIT HO10 hlt hi
      simp only [bareD] at HC5 HC6
      generalize idD D false = I1 at *
      generalize idD D true = I2 at *
      generalize encB D true = E1 at *
      generalize encB D false = E2 at *
      refine wp_region_head (S := fun W => Hid ((fun W => Keeps W10 W) W)) 48 (by kernel_rfl) (by kernel_rfl) ?_ (fun hHeld => ?_)
      focus exact Lib.hid (keeps_drew (Keeps.refl _))
      refine wpAnyHL_take (i := 0) (oi := ?_) (v := ?_) ?_ ?_ ?_ ?_ ?_ ?_ ?_ ?_ ?_ (Or.inl ⟨?_, ?_⟩) ?_ ?_
      rotate_left 2
      focus (simp only [List.getElem?_toArray, List.getElem?_cons_succ, List.getElem?_cons_zero]; exact rfl)
      focus kernel_rfl
      focus kernel_rfl
      focus kernel_rfl
      focus kernel_rfl
      focus kernel_rfl
      focus kernel_rfl
      focus kernel_rfl
      focus (exact fun _ _ _ h => h)
      focus rfl
      focus (intro wSw hSw; (have hSw := hSw.out); (refine run_load_row 26 (.tmp 1) ?_ p 0 ?_ _ _ (HRA.out.keeps hSw) Try.underlying26 rfl (sz_tx _ _ _ _)) <;> rfl)
      focus assumption
      try simp only [Act.put, List.setIfInBounds_toArray, List.set_cons_zero, List.set_cons_succ]
      refine wpAnyHL_take (i := 2) (oi := ?_) (v := ?_) ?_ ?_ ?_ ?_ ?_ ?_ ?_ ?_ ?_ (Or.inl ⟨?_, ?_⟩) ?_ ?_
      rotate_left 2
      focus (simp only [List.getElem?_toArray, List.getElem?_cons_succ, List.getElem?_cons_zero]; exact rfl)
      focus kernel_rfl
      focus kernel_rfl
      focus kernel_rfl
      focus kernel_rfl
      focus kernel_rfl
      focus kernel_rfl
      focus kernel_rfl
      focus (exact fun _ _ _ h => h)
      focus rfl
      focus (intro wSw hSw; (have hSw := hSw.out); (refine run_load_row 26 (.tmp 1) ?_ p 0 ?_ _ _ (HRA.out.keeps hSw) Try.underlying26 rfl (sz_tx _ _ _ _)) <;> rfl)
      focus assumption
      try simp only [Act.put, List.setIfInBounds_toArray, List.set_cons_zero, List.set_cons_succ]
      refine wpAnyHL_one (i := 1) (o := ?_) (by kernel_rfl) (by kernel_rfl) ?_ ?_
      rotate_left 1
      focus (simp only [List.getElem?_toArray, List.getElem?_cons_succ, List.getElem?_cons_zero]; exact rfl)
      go_wp2_with (go_at_call 20; refine (HC1.out _ hHeld.out).mono ?_; rintro e W11 ⟨rfl, hk11⟩; have HK11 := Lib.hid hk11; clear hk11)
      try dsimp only [StepQ]
      refine ⟨?_, fun hHeld => ?_⟩
      focus (exact Lib.hid (hHeld.out.trans HK11.out))
      try simp only [Act.put, List.setIfInBounds_toArray, List.set_cons_zero, List.set_cons_succ]
      refine wpAnyHL_one (i := 3) (o := ?_) (by kernel_rfl) (by kernel_rfl) ?_ ?_
      rotate_left 1
      focus (simp only [List.getElem?_toArray, List.getElem?_cons_succ, List.getElem?_cons_zero]; exact rfl)
      go_wp2_with (go_at_call 21; refine (HC2.out _ hHeld.out).mono ?_; rintro e W12 ⟨rfl, hk12⟩; have HK12 := Lib.hid hk12; clear hk12)
      try dsimp only [StepQ]
      refine ⟨?_, fun hHeld => ?_⟩
      focus (exact Lib.hid (hHeld.out.trans HK12.out))
      try simp only [Act.put, List.setIfInBounds_toArray, List.set_cons_zero, List.set_cons_succ]
      refine wpAnyHL_take (i := 4) (oi := ?_) (v := ?_) ?_ ?_ ?_ ?_ ?_ ?_ ?_ ?_ ?_ (Or.inl ⟨?_, ?_⟩) ?_ ?_
      rotate_left 2
      focus (simp only [List.getElem?_toArray, List.getElem?_cons_succ, List.getElem?_cons_zero]; exact rfl)
      focus kernel_rfl
      focus kernel_rfl
      focus kernel_rfl
      focus kernel_rfl
      focus kernel_rfl
      focus kernel_rfl
      focus kernel_rfl
      focus (exact fun _ _ _ h => h)
      focus rfl
      focus (intro wSw hSw; (have hSw := hSw.out); (refine run_eql_at 36 36 (.tmp 28) (.tmp 30) ?_ _ _ ?_ ?_ true HE1.out (by kernel_rfl)) <;> rfl)
      focus assumption
      try simp only [Act.put, List.setIfInBounds_toArray, List.set_cons_zero, List.set_cons_succ]
      refine wpAnyHL_take (i := 5) (oi := ?_) (v := ?_) ?_ ?_ ?_ ?_ ?_ ?_ ?_ ?_ ?_ (Or.inl ⟨?_, ?_⟩) ?_ ?_
      rotate_left 2
      focus (simp only [List.getElem?_toArray, List.getElem?_cons_succ, List.getElem?_cons_zero]; exact rfl)
      focus kernel_rfl
      focus kernel_rfl
      focus kernel_rfl
      focus kernel_rfl
      focus kernel_rfl
      focus kernel_rfl
      focus kernel_rfl
      focus (exact fun _ _ _ h => h)
      focus rfl
      focus ((intro wSw hSw; (have hSw := hSw.out); (try dsimp only at hSw); go_simp) <;> with_reducible rfl)
      focus assumption
      try simp only [Act.put, List.setIfInBounds_toArray, List.set_cons_zero, List.set_cons_succ]
      refine wpAnyHL_take (i := 6) (oi := ?_) (v := ?_) ?_ ?_ ?_ ?_ ?_ ?_ ?_ ?_ ?_ (Or.inl ⟨?_, ?_⟩) ?_ ?_
      rotate_left 2
      focus (simp only [List.getElem?_toArray, List.getElem?_cons_succ, List.getElem?_cons_zero]; exact rfl)
      focus kernel_rfl
      focus kernel_rfl
      focus kernel_rfl
      focus kernel_rfl
      focus kernel_rfl
      focus kernel_rfl
      focus kernel_rfl
      focus (exact fun _ _ _ h => h)
      focus rfl
      focus (intro wSw hSw; (have hSw := hSw.out); (refine run_load_row 26 (.tmp 1) ?_ p 0 ?_ _ _ (HRA.out.keeps hSw) Try.underlying26 rfl (sz_tx _ _ _ _)) <;> rfl)
      focus assumption
      try simp only [Act.put, List.setIfInBounds_toArray, List.set_cons_zero, List.set_cons_succ]
      refine wpAnyHL_take (i := 8) (oi := ?_) (v := ?_) ?_ ?_ ?_ ?_ ?_ ?_ ?_ ?_ ?_ (Or.inl ⟨?_, ?_⟩) ?_ ?_
      rotate_left 2
      focus (simp only [List.getElem?_toArray, List.getElem?_cons_succ, List.getElem?_cons_zero]; exact rfl)
      focus kernel_rfl
      focus kernel_rfl
      focus kernel_rfl
      focus kernel_rfl
      focus kernel_rfl
      focus kernel_rfl
      focus kernel_rfl
      focus (exact fun _ _ _ h => h)
      focus rfl
      focus (intro wSw hSw; (have hSw := hSw.out); (refine run_load_row 26 (.tmp 1) ?_ p 0 ?_ _ _ (HRA.out.keeps hSw) Try.underlying26 rfl (sz_tx _ _ _ _)) <;> rfl)
      focus assumption
      try simp only [Act.put, List.setIfInBounds_toArray, List.set_cons_zero, List.set_cons_succ]
      refine wpAnyHL_one (i := 7) (o := ?_) (by kernel_rfl) (by kernel_rfl) ?_ ?_
      rotate_left 1
      focus (simp only [List.getElem?_toArray, List.getElem?_cons_succ, List.getElem?_cons_zero]; exact rfl)
      go_wp2_with (go_at_call 22; refine (HC3.out _ hHeld.out).mono ?_; rintro e W13 ⟨rfl, hk13⟩; have HK13 := Lib.hid hk13; clear hk13)
      try dsimp only [StepQ]
      refine ⟨?_, fun hHeld => ?_⟩
      focus (exact Lib.hid (hHeld.out.trans HK13.out))
      try simp only [Act.put, List.setIfInBounds_toArray, List.set_cons_zero, List.set_cons_succ]
      refine wpAnyHL_one (i := 9) (o := ?_) (by kernel_rfl) (by kernel_rfl) ?_ ?_
      rotate_left 1
      focus (simp only [List.getElem?_toArray, List.getElem?_cons_succ, List.getElem?_cons_zero]; exact rfl)
      go_wp2_with (go_at_call 19; refine (HC4.out _ hHeld.out).mono ?_; rintro e W14 ⟨v14, rfl, hO14⟩; obtain ⟨a14, c14, rfl⟩ := hO14.any; have HO14 := Lib.hid hO14; clear hO14)
      try dsimp only [StepQ]
      refine ⟨?_, fun hHeld => ?_⟩
      focus (exact Lib.hid (hHeld.out.trans HO14.out.keeps))
      try simp only [Act.put, List.setIfInBounds_toArray, List.set_cons_zero, List.set_cons_succ]
      refine wpAnyHL_one (i := 10) (o := ?_) (by kernel_rfl) (by kernel_rfl) ?_ ?_
      rotate_left 1
      focus (simp only [List.getElem?_toArray, List.getElem?_cons_succ, List.getElem?_cons_zero]; exact rfl)
      go_wp2_with (go_at_call 23; refine (HDB.out _ _ _ HO14.out.rd (by omega)).mono ?_; rintro e W15 ⟨rfl, hk15⟩; have HK15 := Lib.hid hk15; clear hk15)
      try dsimp only [StepQ]
      refine ⟨?_, fun hHeld => ?_⟩
      focus (exact Lib.hid (hHeld.out.trans HK15.out))
      try simp only [Act.put, List.setIfInBounds_toArray, List.set_cons_zero, List.set_cons_succ]
      refine wpAnyHL_take (i := 11) (oi := ?_) (v := ?_) ?_ ?_ ?_ ?_ ?_ ?_ ?_ ?_ ?_ (Or.inl ⟨?_, ?_⟩) ?_ ?_
      rotate_left 2
      focus (simp only [List.getElem?_toArray, List.getElem?_cons_succ, List.getElem?_cons_zero]; exact rfl)
      focus kernel_rfl
      focus kernel_rfl
      focus kernel_rfl
      focus kernel_rfl
      focus kernel_rfl
      focus kernel_rfl
      focus kernel_rfl
      focus (exact fun _ _ _ h => h)
      focus rfl
      focus (intro wSw hSw; (have hSw := hSw.out); (refine run_eql_at 36 36 (.tmp 34) (.tmp 37) ?_ _ _ ?_ ?_ true HE2.out (by kernel_rfl)) <;> rfl)
      focus assumption
      try simp only [Act.put, List.setIfInBounds_toArray, List.set_cons_zero, List.set_cons_succ]
      refine wpAnyHL_take (i := 12) (oi := ?_) (v := ?_) ?_ ?_ ?_ ?_ ?_ ?_ ?_ ?_ ?_ (Or.inl ⟨?_, ?_⟩) ?_ ?_
      rotate_left 2
      focus (simp only [List.getElem?_toArray, List.getElem?_cons_succ, List.getElem?_cons_zero]; exact rfl)
      focus kernel_rfl
      focus kernel_rfl
      focus kernel_rfl
      focus kernel_rfl
      focus kernel_rfl
      focus kernel_rfl
      focus kernel_rfl
      focus (exact fun _ _ _ h => h)
      focus rfl
      focus ((intro wSw hSw; (have hSw := hSw.out); (try dsimp only at hSw); go_simp) <;> with_reducible rfl)
      focus assumption
      try simp only [Act.put, List.setIfInBounds_toArray, List.set_cons_zero, List.set_cons_succ]
      refine wpAnyHL_take (i := 13) (oi := ?_) (v := ?_) ?_ ?_ ?_ ?_ ?_ ?_ ?_ ?_ ?_ (Or.inl ⟨?_, ?_⟩) ?_ ?_
      rotate_left 2
      focus (simp only [List.getElem?_toArray, List.getElem?_cons_succ, List.getElem?_cons_zero]; exact rfl)
      focus kernel_rfl
      focus kernel_rfl
      focus kernel_rfl
      focus kernel_rfl
      focus kernel_rfl
      focus kernel_rfl
      focus kernel_rfl
      focus (exact fun _ _ _ h => h)
      focus rfl
      focus ((intro wSw hSw; (have hSw := hSw.out); (try dsimp only at hSw); go_simp) <;> with_reducible rfl)
      focus assumption
      try simp only [Act.put, List.setIfInBounds_toArray, List.set_cons_zero, List.set_cons_succ]
      refine wpAnyHL_take (i := 14) (oi := ?_) (v := ?_) ?_ ?_ ?_ ?_ ?_ ?_ ?_ ?_ ?_ (Or.inl ⟨?_, ?_⟩) ?_ ?_
      rotate_left 2
      focus (simp only [List.getElem?_toArray, List.getElem?_cons_succ, List.getElem?_cons_zero]; exact rfl)
      focus kernel_rfl
      focus kernel_rfl
      focus kernel_rfl
      focus kernel_rfl
      focus kernel_rfl
      focus kernel_rfl
      focus kernel_rfl
      focus (exact fun _ _ _ h => h)
      focus rfl
      focus (intro wSw hSw; (have hSw := hSw.out); (refine run_load_row 26 (.tmp 3) ?_ p8 0 ?_ _ _ (HRB.out.keeps hSw) Try.underlying26 rfl (sz_tx _ _ _ _)) <;> rfl)
      focus assumption
      try simp only [Act.put, List.setIfInBounds_toArray, List.set_cons_zero, List.set_cons_succ]
      refine wpAnyHL_take (i := 16) (oi := ?_) (v := ?_) ?_ ?_ ?_ ?_ ?_ ?_ ?_ ?_ ?_ (Or.inl ⟨?_, ?_⟩) ?_ ?_
      rotate_left 2
      focus (simp only [List.getElem?_toArray, List.getElem?_cons_succ, List.getElem?_cons_zero]; exact rfl)
      focus kernel_rfl
      focus kernel_rfl
      focus kernel_rfl
      focus kernel_rfl
      focus kernel_rfl
      focus kernel_rfl
      focus kernel_rfl
      focus (exact fun _ _ _ h => h)
      focus rfl
      focus (intro wSw hSw; (have hSw := hSw.out); (refine run_load_row 26 (.tmp 1) ?_ p 0 ?_ _ _ (HRA.out.keeps hSw) Try.underlying26 rfl (sz_tx _ _ _ _)) <;> rfl)
      focus assumption
      try simp only [Act.put, List.setIfInBounds_toArray, List.set_cons_zero, List.set_cons_succ]
      refine wpAnyHL_one (i := 15) (o := ?_) (by kernel_rfl) (by kernel_rfl) ?_ ?_
      rotate_left 1
      focus (simp only [List.getElem?_toArray, List.getElem?_cons_succ, List.getElem?_cons_zero]; exact rfl)
      go_wp2_with (go_at_call 20; refine (HC5.out _ hHeld.out).mono ?_; rintro e W16 ⟨rfl, hk16⟩; have HK16 := Lib.hid hk16; clear hk16)
      try dsimp only [StepQ]
      refine ⟨?_, fun hHeld => ?_⟩
      focus (exact Lib.hid (hHeld.out.trans HK16.out))
      try simp only [Act.put, List.setIfInBounds_toArray, List.set_cons_zero, List.set_cons_succ]
      refine wpAnyHL_one (i := 17) (o := ?_) (by kernel_rfl) (by kernel_rfl) ?_ ?_
      rotate_left 1
      focus (simp only [List.getElem?_toArray, List.getElem?_cons_succ, List.getElem?_cons_zero]; exact rfl)
      go_wp2_with (go_at_call 20; refine (HC1.out _ hHeld.out).mono ?_; rintro e W17 ⟨rfl, hk17⟩; have HK17 := Lib.hid hk17; clear hk17)
      try dsimp only [StepQ]
      refine ⟨?_, fun hHeld => ?_⟩
      focus (exact Lib.hid (hHeld.out.trans HK17.out))
      try simp only [Act.put, List.setIfInBounds_toArray, List.set_cons_zero, List.set_cons_succ]
      refine wpAnyHL_take (i := 18) (oi := ?_) (v := ?_) ?_ ?_ ?_ ?_ ?_ ?_ ?_ ?_ ?_ (Or.inl ⟨?_, ?_⟩) ?_ ?_
      rotate_left 2
      focus (simp only [List.getElem?_toArray, List.getElem?_cons_succ, List.getElem?_cons_zero]; exact rfl)
      focus kernel_rfl
      focus kernel_rfl
      focus kernel_rfl
      focus kernel_rfl
      focus kernel_rfl
      focus kernel_rfl
      focus kernel_rfl
      focus (exact fun _ _ _ h => h)
      focus rfl
      focus (intro wSw hSw; (have hSw := hSw.out); (refine run_eql_at 36 36 (.tmp 42) (.tmp 44) ?_ _ _ ?_ ?_ true HE1.out (by kernel_rfl)) <;> rfl)
      focus assumption
      try simp only [Act.put, List.setIfInBounds_toArray, List.set_cons_zero, List.set_cons_succ]
      refine wpAnyHL_take (i := 19) (oi := ?_) (v := ?_) ?_ ?_ ?_ ?_ ?_ ?_ ?_ ?_ ?_ (Or.inl ⟨?_, ?_⟩) ?_ ?_
      rotate_left 2
      focus (simp only [List.getElem?_toArray, List.getElem?_cons_succ, List.getElem?_cons_zero]; exact rfl)
      focus kernel_rfl
      focus kernel_rfl
      focus kernel_rfl
      focus kernel_rfl
      focus kernel_rfl
      focus kernel_rfl
      focus kernel_rfl
      focus (exact fun _ _ _ h => h)
      focus rfl
      focus ((intro wSw hSw; (have hSw := hSw.out); (try dsimp only at hSw); go_simp) <;> with_reducible rfl)
      focus assumption
      try simp only [Act.put, List.setIfInBounds_toArray, List.set_cons_zero, List.set_cons_succ]
      refine wpAnyHL_take (i := 20) (oi := ?_) (v := ?_) ?_ ?_ ?_ ?_ ?_ ?_ ?_ ?_ ?_ (Or.inl ⟨?_, ?_⟩) ?_ ?_
      rotate_left 2
      focus (simp only [List.getElem?_toArray, List.getElem?_cons_succ, List.getElem?_cons_zero]; exact rfl)
      focus kernel_rfl
      focus kernel_rfl
      focus kernel_rfl
      focus kernel_rfl
      focus kernel_rfl
      focus kernel_rfl
      focus kernel_rfl
      focus (exact fun _ _ _ h => h)
      focus rfl
      focus ((intro wSw hSw; (have hSw := hSw.out); (try dsimp only at hSw); go_simp) <;> with_reducible rfl)
      focus assumption
      try simp only [Act.put, List.setIfInBounds_toArray, List.set_cons_zero, List.set_cons_succ]
      refine wpAnyHL_take (i := 21) (oi := ?_) (v := ?_) ?_ ?_ ?_ ?_ ?_ ?_ ?_ ?_ ?_ (Or.inl ⟨?_, ?_⟩) ?_ ?_
      rotate_left 2
      focus (simp only [List.getElem?_toArray, List.getElem?_cons_succ, List.getElem?_cons_zero]; exact rfl)
      focus kernel_rfl
      focus kernel_rfl
      focus kernel_rfl
      focus kernel_rfl
      focus kernel_rfl
      focus kernel_rfl
      focus kernel_rfl
      focus (exact fun _ _ _ h => h)
      focus rfl
      focus (intro wSw hSw; (have hSw := hSw.out); (refine run_load_row 26 (.tmp 3) ?_ p8 0 ?_ _ _ (HRB.out.keeps hSw) Try.underlying26 rfl (sz_tx _ _ _ _)) <;> rfl)
      focus assumption
      try simp only [Act.put, List.setIfInBounds_toArray, List.set_cons_zero, List.set_cons_succ]
      refine wpAnyHL_take (i := 23) (oi := ?_) (v := ?_) ?_ ?_ ?_ ?_ ?_ ?_ ?_ ?_ ?_ (Or.inl ⟨?_, ?_⟩) ?_ ?_
      rotate_left 2
      focus (simp only [List.getElem?_toArray, List.getElem?_cons_succ, List.getElem?_cons_zero]; exact rfl)
      focus kernel_rfl
      focus kernel_rfl
      focus kernel_rfl
      focus kernel_rfl
      focus kernel_rfl
      focus kernel_rfl
      focus kernel_rfl
      focus (exact fun _ _ _ h => h)
      focus rfl
      focus (intro wSw hSw; (have hSw := hSw.out); (refine run_load_row 26 (.tmp 1) ?_ p 0 ?_ _ _ (HRA.out.keeps hSw) Try.underlying26 rfl (sz_tx _ _ _ _)) <;> rfl)
      focus assumption
      try simp only [Act.put, List.setIfInBounds_toArray, List.set_cons_zero, List.set_cons_succ]
      refine wpAnyHL_one (i := 22) (o := ?_) (by kernel_rfl) (by kernel_rfl) ?_ ?_
      rotate_left 1
      focus (simp only [List.getElem?_toArray, List.getElem?_cons_succ, List.getElem?_cons_zero]; exact rfl)
      go_wp2_with (go_at_call 22; refine (HC6.out _ hHeld.out).mono ?_; rintro e W18 ⟨rfl, hk18⟩; have HK18 := Lib.hid hk18; clear hk18)
      try dsimp only [StepQ]
      refine ⟨?_, fun hHeld => ?_⟩
      focus (exact Lib.hid (hHeld.out.trans HK18.out))
      try simp only [Act.put, List.setIfInBounds_toArray, List.set_cons_zero, List.set_cons_succ]
      refine wpAnyHL_one (i := 24) (o := ?_) (by kernel_rfl) (by kernel_rfl) ?_ ?_
      rotate_left 1
      focus (simp only [List.getElem?_toArray, List.getElem?_cons_succ, List.getElem?_cons_zero]; exact rfl)
      go_wp2_with (go_at_call 20; refine (HC1.out _ hHeld.out).mono ?_; rintro e W19 ⟨rfl, hk19⟩; have HK19 := Lib.hid hk19; clear hk19)
      try dsimp only [StepQ]
      refine ⟨?_, fun hHeld => ?_⟩
      focus (exact Lib.hid (hHeld.out.trans HK19.out))
      try simp only [Act.put, List.setIfInBounds_toArray, List.set_cons_zero, List.set_cons_succ]
      refine wpAnyHL_take (i := 25) (oi := ?_) (v := ?_) ?_ ?_ ?_ ?_ ?_ ?_ ?_ ?_ ?_ (Or.inl ⟨?_, ?_⟩) ?_ ?_
      rotate_left 2
      focus (simp only [List.getElem?_toArray, List.getElem?_cons_succ, List.getElem?_cons_zero]; exact rfl)
      focus kernel_rfl
      focus kernel_rfl
      focus kernel_rfl
      focus kernel_rfl
      focus kernel_rfl
      focus kernel_rfl
      focus kernel_rfl
      focus (exact fun _ _ _ h => h)
      focus rfl
      focus (intro wSw hSw; (have hSw := hSw.out); (refine run_eql_at 36 36 (.tmp 49) (.tmp 51) ?_ _ _ ?_ ?_ true HE1.out (by kernel_rfl)) <;> rfl)
      focus assumption
      try simp only [Act.put, List.setIfInBounds_toArray, List.set_cons_zero, List.set_cons_succ]
      refine wpAnyHL_take (i := 26) (oi := ?_) (v := ?_) ?_ ?_ ?_ ?_ ?_ ?_ ?_ ?_ ?_ (Or.inl ⟨?_, ?_⟩) ?_ ?_
      rotate_left 2
      focus (simp only [List.getElem?_toArray, List.getElem?_cons_succ, List.getElem?_cons_zero]; exact rfl)
      focus kernel_rfl
      focus kernel_rfl
      focus kernel_rfl
      focus kernel_rfl
      focus kernel_rfl
      focus kernel_rfl
      focus kernel_rfl
      focus (exact fun _ _ _ h => h)
      focus rfl
      focus ((intro wSw hSw; (have hSw := hSw.out); (try dsimp only at hSw); go_simp) <;> with_reducible rfl)
      focus assumption
      try simp only [Act.put, List.setIfInBounds_toArray, List.set_cons_zero, List.set_cons_succ]
      refine wpAnyHL_take (i := 27) (oi := ?_) (v := ?_) ?_ ?_ ?_ ?_ ?_ ?_ ?_ ?_ ?_ (Or.inl ⟨?_, ?_⟩) ?_ ?_
      rotate_left 2
      focus (simp only [List.getElem?_toArray, List.getElem?_cons_succ, List.getElem?_cons_zero]; exact rfl)
      focus kernel_rfl
      focus kernel_rfl
      focus kernel_rfl
      focus kernel_rfl
      focus kernel_rfl
      focus kernel_rfl
      focus kernel_rfl
      focus (exact fun _ _ _ h => h)
      focus rfl
      focus ((intro wSw hSw; (have hSw := hSw.out); (try dsimp only at hSw); go_simp) <;> with_reducible rfl)
      focus assumption
      try simp only [Act.put, List.setIfInBounds_toArray, List.set_cons_zero, List.set_cons_succ]
      refine wpAnyHL_take (i := 28) (oi := ?_) (v := ?_) ?_ ?_ ?_ ?_ ?_ ?_ ?_ ?_ ?_ (Or.inl ⟨?_, ?_⟩) ?_ ?_
      rotate_left 2
      focus (simp only [List.getElem?_toArray, List.getElem?_cons_succ, List.getElem?_cons_zero]; exact rfl)
      focus kernel_rfl
      focus kernel_rfl
      focus kernel_rfl
      focus kernel_rfl
      focus kernel_rfl
      focus kernel_rfl
      focus kernel_rfl
      focus (exact fun _ _ _ h => h)
      focus rfl
      focus (intro wSw hSw; (have hSw := hSw.out); (refine run_load_row 26 (.tmp 1) ?_ p 0 ?_ _ _ (HRA.out.keeps hSw) Try.underlying26 rfl (sz_tx _ _ _ _)) <;> rfl)
      focus assumption
      try simp only [Act.put, List.setIfInBounds_toArray, List.set_cons_zero, List.set_cons_succ]
      refine wpAnyHL_take (i := 30) (oi := ?_) (v := ?_) ?_ ?_ ?_ ?_ ?_ ?_ ?_ ?_ ?_ (Or.inl ⟨?_, ?_⟩) ?_ ?_
      rotate_left 2
      focus (simp only [List.getElem?_toArray, List.getElem?_cons_succ, List.getElem?_cons_zero]; exact rfl)
      focus kernel_rfl
      focus kernel_rfl
      focus kernel_rfl
      focus kernel_rfl
      focus kernel_rfl
      focus kernel_rfl
      focus kernel_rfl
      focus (exact fun _ _ _ h => h)
      focus rfl
      focus ((intro wSw hSw; (have hSw := hSw.out); (try dsimp only at hSw); go_simp) <;> with_reducible rfl)
      focus assumption
      try simp only [Act.put, List.setIfInBounds_toArray, List.set_cons_zero, List.set_cons_succ]
      refine wpAnyHL_one (i := 29) (o := ?_) (by kernel_rfl) (by kernel_rfl) ?_ ?_
      rotate_left 1
      focus (simp only [List.getElem?_toArray, List.getElem?_cons_succ, List.getElem?_cons_zero]; exact rfl)
      go_wp2_with (go_at_call 24; refine (HC7.out _ hHeld.out).mono ?_; rintro e W20 ⟨rfl, hk20⟩; have HK20 := Lib.hid hk20; clear hk20)
      try dsimp only [StepQ]
      refine ⟨?_, fun hHeld => ?_⟩
      focus (exact Lib.hid (hHeld.out.trans HK20.out))
      try simp only [Act.put, List.setIfInBounds_toArray, List.set_cons_zero, List.set_cons_succ]
      refine wpAnyHL_take (i := 31) (oi := ?_) (v := ?_) ?_ ?_ ?_ ?_ ?_ ?_ ?_ ?_ ?_ (Or.inl ⟨?_, ?_⟩) ?_ ?_
      rotate_left 2
      focus (simp only [List.getElem?_toArray, List.getElem?_cons_succ, List.getElem?_cons_zero]; exact rfl)
      focus kernel_rfl
      focus kernel_rfl
      focus kernel_rfl
      focus kernel_rfl
      focus kernel_rfl
      focus kernel_rfl
      focus kernel_rfl
      focus (exact fun _ _ _ h => h)
      focus rfl
      focus ((intro wSw hSw; (have hSw := hSw.out); (try dsimp only at hSw); go_simp) <;> with_reducible rfl)
      focus assumption
      try simp only [Act.put, List.setIfInBounds_toArray, List.set_cons_zero, List.set_cons_succ]
      refine wpAnyHL_take (i := 32) (oi := ?_) (v := ?_) ?_ ?_ ?_ ?_ ?_ ?_ ?_ ?_ ?_ (Or.inl ⟨?_, ?_⟩) ?_ ?_
      rotate_left 2
      focus (simp only [List.getElem?_toArray, List.getElem?_cons_succ, List.getElem?_cons_zero]; exact rfl)
      focus kernel_rfl
      focus kernel_rfl
      focus kernel_rfl
      focus kernel_rfl
      focus kernel_rfl
      focus kernel_rfl
      focus kernel_rfl
      focus (exact fun _ _ _ h => h)
      focus rfl
      focus ((intro wSw hSw; (have hSw := hSw.out); (try dsimp only at hSw); go_simp) <;> with_reducible rfl)
      focus assumption
      try simp only [Act.put, List.setIfInBounds_toArray, List.set_cons_zero, List.set_cons_succ]
      refine wpAnyHL_take (i := 33) (oi := ?_) (v := ?_) ?_ ?_ ?_ ?_ ?_ ?_ ?_ ?_ ?_ (Or.inl ⟨?_, ?_⟩) ?_ ?_
      rotate_left 2
      focus (simp only [List.getElem?_toArray, List.getElem?_cons_succ, List.getElem?_cons_zero]; exact rfl)
      focus kernel_rfl
      focus kernel_rfl
      focus kernel_rfl
      focus kernel_rfl
      focus kernel_rfl
      focus kernel_rfl
      focus kernel_rfl
      focus (exact fun _ _ _ h => h)
      focus rfl
      focus ((intro wSw hSw; (have hSw := hSw.out); (try dsimp only at hSw); go_simp) <;> with_reducible rfl)
      focus assumption
      try simp only [Act.put, List.setIfInBounds_toArray, List.set_cons_zero, List.set_cons_succ]
      refine wpAnyHL_take (i := 34) (oi := ?_) (v := ?_) ?_ ?_ ?_ ?_ ?_ ?_ ?_ ?_ ?_ (Or.inl ⟨?_, ?_⟩) ?_ ?_
      rotate_left 2
      focus (simp only [List.getElem?_toArray, List.getElem?_cons_succ, List.getElem?_cons_zero]; exact rfl)
      focus kernel_rfl
      focus kernel_rfl
      focus kernel_rfl
      focus kernel_rfl
      focus kernel_rfl
      focus kernel_rfl
      focus kernel_rfl
      focus (exact fun _ _ _ h => h)
      focus rfl
      focus (intro wSw hSw; (have hSw := hSw.out); (refine run_load_row 26 (.tmp 1) ?_ p 0 ?_ _ _ (HRA.out.keeps hSw) Try.underlying26 rfl (sz_tx _ _ _ _)) <;> rfl)
      focus assumption
      try simp only [Act.put, List.setIfInBounds_toArray, List.set_cons_zero, List.set_cons_succ]
      refine wpAnyHL_take (i := 36) (oi := ?_) (v := ?_) ?_ ?_ ?_ ?_ ?_ ?_ ?_ ?_ ?_ (Or.inl ⟨?_, ?_⟩) ?_ ?_
      rotate_left 2
      focus (simp only [List.getElem?_toArray, List.getElem?_cons_succ, List.getElem?_cons_zero]; exact rfl)
      focus kernel_rfl
      focus kernel_rfl
      focus kernel_rfl
      focus kernel_rfl
      focus kernel_rfl
      focus kernel_rfl
      focus kernel_rfl
      focus (exact fun _ _ _ h => h)
      focus rfl
      focus (intro wSw hSw; (have hSw := hSw.out); (refine run_load_row 26 (.tmp 1) ?_ p 0 ?_ _ _ (HRA.out.keeps hSw) Try.underlying26 rfl (sz_tx _ _ _ _)) <;> rfl)
      focus assumption
      try simp only [Act.put, List.setIfInBounds_toArray, List.set_cons_zero, List.set_cons_succ]
      refine wpAnyHL_one (i := 35) (o := ?_) (by kernel_rfl) (by kernel_rfl) ?_ ?_
      rotate_left 1
      focus (simp only [List.getElem?_toArray, List.getElem?_cons_succ, List.getElem?_cons_zero]; exact rfl)
      go_wp2_with (go_at_call 25; refine (HC8.out _ hHeld.out).mono ?_; rintro e W21 ⟨rfl, hk21⟩; have HK21 := Lib.hid hk21; clear hk21)
      try dsimp only [StepQ]
      refine ⟨?_, fun hHeld => ?_⟩
      focus (exact Lib.hid (hHeld.out.trans HK21.out))
      try simp only [Act.put, List.setIfInBounds_toArray, List.set_cons_zero, List.set_cons_succ]
      refine wpAnyHL_one (i := 37) (o := ?_) (by kernel_rfl) (by kernel_rfl) ?_ ?_
      rotate_left 1
      focus (simp only [List.getElem?_toArray, List.getElem?_cons_succ, List.getElem?_cons_zero]; exact rfl)
      go_wp2_with (go_at_call 26; refine (HC9.out _ hHeld.out).mono ?_; rintro e W22 ⟨rfl, hk22⟩; have HK22 := Lib.hid hk22; clear hk22)
      try dsimp only [StepQ]
      refine ⟨?_, fun hHeld => ?_⟩
      focus (exact Lib.hid (hHeld.out.trans HK22.out))
      try simp only [Act.put, List.setIfInBounds_toArray, List.set_cons_zero, List.set_cons_succ]
      refine wpAnyHL_take (i := 38) (oi := ?_) (v := ?_) ?_ ?_ ?_ ?_ ?_ ?_ ?_ ?_ ?_ (Or.inl ⟨?_, ?_⟩) ?_ ?_
      rotate_left 2
      focus (simp only [List.getElem?_toArray, List.getElem?_cons_succ, List.getElem?_cons_zero]; exact rfl)
      focus kernel_rfl
      focus kernel_rfl
      focus kernel_rfl
      focus kernel_rfl
      focus kernel_rfl
      focus kernel_rfl
      focus kernel_rfl
      focus (exact fun _ _ _ h => h)
      focus rfl
      focus ((intro wSw hSw; (have hSw := hSw.out); (try dsimp only at hSw); go_simp) <;> with_reducible rfl)
      focus assumption
      try simp only [Act.put, List.setIfInBounds_toArray, List.set_cons_zero, List.set_cons_succ]
      refine wpAnyHL_take (i := 39) (oi := ?_) (v := ?_) ?_ ?_ ?_ ?_ ?_ ?_ ?_ ?_ ?_ (Or.inl ⟨?_, ?_⟩) ?_ ?_
      rotate_left 2
      focus (simp only [List.getElem?_toArray, List.getElem?_cons_succ, List.getElem?_cons_zero]; exact rfl)
      focus kernel_rfl
      focus kernel_rfl
      focus kernel_rfl
      focus kernel_rfl
      focus kernel_rfl
      focus kernel_rfl
      focus kernel_rfl
      focus (exact fun _ _ _ h => h)
      focus rfl
      focus ((intro wSw hSw; (have hSw := hSw.out); (try dsimp only at hSw); go_simp) <;> with_reducible rfl)
      focus assumption
      try simp only [Act.put, List.setIfInBounds_toArray, List.set_cons_zero, List.set_cons_succ]
      refine wpAnyHL_take (i := 40) (oi := ?_) (v := ?_) ?_ ?_ ?_ ?_ ?_ ?_ ?_ ?_ ?_ (Or.inl ⟨?_, ?_⟩) ?_ ?_
      rotate_left 2
      focus (simp only [List.getElem?_toArray, List.getElem?_cons_succ, List.getElem?_cons_zero]; exact rfl)
      focus kernel_rfl
      focus kernel_rfl
      focus kernel_rfl
      focus kernel_rfl
      focus kernel_rfl
      focus kernel_rfl
      focus kernel_rfl
      focus (exact fun _ _ _ h => h)
      focus rfl
      focus ((intro wSw hSw; (have hSw := hSw.out); (try dsimp only at hSw); go_simp) <;> with_reducible rfl)
      focus assumption
      try simp only [Act.put, List.setIfInBounds_toArray, List.set_cons_zero, List.set_cons_succ]
      refine wpAnyHL_take (i := 41) (oi := ?_) (v := ?_) ?_ ?_ ?_ ?_ ?_ ?_ ?_ ?_ ?_ (Or.inl ⟨?_, ?_⟩) ?_ ?_
      rotate_left 2
      focus (simp only [List.getElem?_toArray, List.getElem?_cons_succ, List.getElem?_cons_zero]; exact rfl)
      focus kernel_rfl
      focus kernel_rfl
      focus kernel_rfl
      focus kernel_rfl
      focus kernel_rfl
      focus kernel_rfl
      focus kernel_rfl
      focus (exact fun _ _ _ h => h)
      focus rfl
      focus (intro wSw hSw; (have hSw := hSw.out); (refine run_load_row 26 (.tmp 1) ?_ p 0 ?_ _ _ (HRA.out.keeps hSw) Try.underlying26 rfl (sz_tx _ _ _ _)) <;> rfl)
      focus assumption
      try simp only [Act.put, List.setIfInBounds_toArray, List.set_cons_zero, List.set_cons_succ]
      refine wpAnyHL_take (i := 43) (oi := ?_) (v := ?_) ?_ ?_ ?_ ?_ ?_ ?_ ?_ ?_ ?_ (Or.inl ⟨?_, ?_⟩) ?_ ?_
      rotate_left 2
      focus (simp only [List.getElem?_toArray, List.getElem?_cons_succ, List.getElem?_cons_zero]; exact rfl)
      focus kernel_rfl
      focus kernel_rfl
      focus kernel_rfl
      focus kernel_rfl
      focus kernel_rfl
      focus kernel_rfl
      focus kernel_rfl
      focus (exact fun _ _ _ h => h)
      focus rfl
      focus (intro wSw hSw; (have hSw := hSw.out); (refine run_load_row 26 (.tmp 1) ?_ p 0 ?_ _ _ (HRA.out.keeps hSw) Try.underlying26 rfl (sz_tx _ _ _ _)) <;> rfl)
      focus assumption
      try simp only [Act.put, List.setIfInBounds_toArray, List.set_cons_zero, List.set_cons_succ]
      refine wpAnyHL_one (i := 42) (o := ?_) (by kernel_rfl) (by kernel_rfl) ?_ ?_
      rotate_left 1
      focus (simp only [List.getElem?_toArray, List.getElem?_cons_succ, List.getElem?_cons_zero]; exact rfl)
      go_wp2_with (go_at_call 27; refine (HCA.out _ hHeld.out).mono ?_; rintro e W23 ⟨rfl, hk23⟩; have HK23 := Lib.hid hk23; clear hk23)
      try dsimp only [StepQ]
      refine ⟨?_, fun hHeld => ?_⟩
      focus (exact Lib.hid (hHeld.out.trans HK23.out))
      try simp only [Act.put, List.setIfInBounds_toArray, List.set_cons_zero, List.set_cons_succ]
      refine wpAnyHL_one (i := 44) (o := ?_) (by kernel_rfl) (by kernel_rfl) ?_ ?_
      rotate_left 1
      focus (simp only [List.getElem?_toArray, List.getElem?_cons_succ, List.getElem?_cons_zero]; exact rfl)
      go_wp2_with (go_at_call 26; refine (HC9.out _ hHeld.out).mono ?_; rintro e W24 ⟨rfl, hk24⟩; have HK24 := Lib.hid hk24; clear hk24)
      try dsimp only [StepQ]
      refine ⟨?_, fun hHeld => ?_⟩
      focus (exact Lib.hid (hHeld.out.trans HK24.out))
      try simp only [Act.put, List.setIfInBounds_toArray, List.set_cons_zero, List.set_cons_succ]
      refine wpAnyHL_take (i := 45) (oi := ?_) (v := ?_) ?_ ?_ ?_ ?_ ?_ ?_ ?_ ?_ ?_ (Or.inl ⟨?_, ?_⟩) ?_ ?_
      rotate_left 2
      focus (simp only [List.getElem?_toArray, List.getElem?_cons_succ, List.getElem?_cons_zero]; exact rfl)
      focus kernel_rfl
      focus kernel_rfl
      focus kernel_rfl
      focus kernel_rfl
      focus kernel_rfl
      focus kernel_rfl
      focus kernel_rfl
      focus (exact fun _ _ _ h => h)
      focus rfl
      focus ((intro wSw hSw; (have hSw := hSw.out); (try dsimp only at hSw); go_simp) <;> with_reducible rfl)
      focus assumption
      try simp only [Act.put, List.setIfInBounds_toArray, List.set_cons_zero, List.set_cons_succ]
      refine wpAnyHL_take (i := 46) (oi := ?_) (v := ?_) ?_ ?_ ?_ ?_ ?_ ?_ ?_ ?_ ?_ (Or.inl ⟨?_, ?_⟩) ?_ ?_
      rotate_left 2
      focus (simp only [List.getElem?_toArray, List.getElem?_cons_succ, List.getElem?_cons_zero]; exact rfl)
      focus kernel_rfl
      focus kernel_rfl
      focus kernel_rfl
      focus kernel_rfl
      focus kernel_rfl
      focus kernel_rfl
      focus kernel_rfl
      focus (exact fun _ _ _ h => h)
      focus rfl
      focus ((intro wSw hSw; (have hSw := hSw.out); (try dsimp only at hSw); go_simp) <;> with_reducible rfl)
      focus assumption
      try simp only [Act.put, List.setIfInBounds_toArray, List.set_cons_zero, List.set_cons_succ]
      refine wpAnyHL_take (i := 47) (oi := ?_) (v := ?_) ?_ ?_ ?_ ?_ ?_ ?_ ?_ ?_ ?_ (Or.inl ⟨?_, ?_⟩) ?_ ?_
      rotate_left 2
      focus (simp only [List.getElem?_toArray, List.getElem?_cons_succ, List.getElem?_cons_zero]; exact rfl)
      focus kernel_rfl
      focus kernel_rfl
      focus kernel_rfl
      focus kernel_rfl
      focus kernel_rfl
      focus kernel_rfl
      focus kernel_rfl
      focus (exact fun _ _ _ h => h)
      focus rfl
      focus ((intro wSw hSw; (have hSw := hSw.out); (try dsimp only at hSw); go_simp) <;> with_reducible rfl)
      focus assumption
      try simp only [Act.put, List.setIfInBounds_toArray, List.set_cons_zero, List.set_cons_succ]
      refine wpAnyHL_done (by kernel_rfl) ?_
      try simp only [List.drop_succ_cons, List.drop_zero]
      go_wp2
      go_ret
      exact ⟨by first | rfl | exact ret_bool (by simp), HKZ.out.trans hHeld.out⟩
end Go.Proofs.Ytjfkkdkmpnpmpaa
