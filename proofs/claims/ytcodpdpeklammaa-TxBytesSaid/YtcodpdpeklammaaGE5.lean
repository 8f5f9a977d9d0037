/- strongboxlaw09.TxBytes: the walk. (Printed by gtxbl.py.) -/
import Derived.Test.YtcodpdpeklammaaGE1
import Derived.Test.YtcodpdpeklammaaGE2
import Derived.Test.YtcodpdpeklammaaGE4
import Derived.Test.YtcodpdpeklammaaGD6
namespace Go.Proofs.Ytcodpdpeklammaa
set_option linter.unusedVariables false
set_option linter.unusedSimpArgs false
open Go Go.RowKit
def decE (l : List Int) : Int := match decTx l with
  | .ok _ => 0
  | .error c => c
theorem decE_ok {l : List Int} {d : TxD} (h : decTx l = .ok d) : decE l = 0 := by unfold decE; rw [h]
theorem decE_err {l : List Int} {c : Int} (h : decTx l = .error c) : decE l = c := by unfold decE; rw [h]
/-- a transaction and an error's number -/
def WeakP (l : List Int) (w : World) (r : Ending) (W : World) : Prop :=
  Keeps w W ∧ ∃ (x1 x2 : Int) (a1 a2 : Option Addr) (n1 c1 n2 c2 : Nat), r = .returned (.tuple #[.agg #[.int .i32 x1, .slice a1 n1 c1, .slice a2 n2 c2, .int .u32 x2], .int .i64 (decE l)])
theorem decode_weak (v : Value) (l : List Int) (w : World) (hr : Rd w 1 v l.length (l.map (Value.int .u8))) (hn : l.length ≤ 140737488355328) (hb : Bytes l) : Calls Try.prog 9 #[v] w (WeakP l w) := by
  refine (decode_any v l w hr hn hb).mono ?_
  rintro r W ⟨hk, ⟨d, iv, ov, hd, rfl, _, _, hi, ho⟩ | ⟨c, hd, rfl⟩⟩
  · obtain ⟨ia, ic, rfl, -⟩ := hi.any
    obtain ⟨oa, oc, rfl, -⟩ := ho.any
    exact ⟨hk, d.ver, d.lock, ia, oa, _, ic, _, oc, by rw [decE_ok hd]⟩
  · exact ⟨hk, 0, 0, none, none, 0, 0, 0, 0, by rw [decE_err hd]⟩
theorem rdecode_weak (S : Nat → Prop) (v : Value) (l : List Int) (w : World) (h : RB S w v l) : Calls Try.prog 10 #[v] w (WeakP l w) := by
  refine (rdecode_any S v l w h).mono ?_
  rintro r W ⟨hk, ⟨d, iv, ov, hd, rfl, ht⟩ | ⟨c, hd, rfl⟩⟩
  · obtain ⟨ia, ic, rfl, -⟩ := ht.ins.any
    obtain ⟨oa, oc, rfl, -⟩ := ht.outs.any
    exact ⟨hk, d.ver, d.lock, ia, oa, _, ic, _, oc, by rw [decE_ok hd]⟩
  · exact ⟨hk, 0, 0, none, none, 0, 0, 0, 0, by rw [decE_err hd]⟩
/-- what is read back -/
def BackP (d : TxD) (w : World) (r : Ending) (W : World) : Prop :=
  Keeps w W ∧ ∃ (a1 a2 : Option Addr) (c1 c2 : Nat), r = .returned (.tuple #[.agg #[.int .i32 d.ver, .slice a1 d.ins.length c1, .slice a2 d.outs.length c2, .int .u32 d.lock], .int .i64 0]) ∧ RTx AnyB AnyB AnyB W (.slice a1 d.ins.length c1) (.slice a2 d.outs.length c2) d
theorem decode_back (d : TxD) (v : Value) (l : List Int) (w : World) (hr : Rd w 1 v l.length (l.map (Value.int .u8))) (hn : l.length ≤ 140737488355328) (hb : Bytes l) (hd : decTx l = .ok d) : Calls Try.prog 9 #[v] w (BackP d w) := by
  refine (decode_any v l w hr hn hb).mono ?_
  rintro r W ⟨hk, ⟨d2, iv, ov, hd2, rfl, hv, hl, hi, ho⟩ | ⟨c, hd2, rfl⟩⟩
  · rw [hd] at hd2
    cases hd2
    have ht := got_rtx hv hl hi ho
    obtain ⟨ia, ic, rfl, -⟩ := hi.any
    obtain ⟨oa, oc, rfl, -⟩ := ho.any
    exact ⟨hk, ia, oa, ic, oc, rfl, ht⟩
  · rw [hd] at hd2; cases hd2
set_option maxRecDepth 100000 in
set_option maxHeartbeats 8000000 in
theorem bytes_any (d : TxD) (iv ov : Value) (w : World) (h : RTx AnyB AnyB AnyB w iv ov d) :
    Calls Try.prog 3 #[.agg #[.int .i32 d.ver, iv, ov, .int .u32 d.lock]] w fun e w' => e = .returned (.bool true) ∧ Keeps w w' := by
  have HT := Lib.hid h
  have h32 : d.ins.all (fun i => i.hash.length == 32) = true := by
    obtain ⟨cs, ps, hi⟩ := h.ins
    rw [List.all_eq_true]
    intro x hx
    obtain ⟨k, hk, e⟩ := List.getElem_of_mem hx
    have hp : ps[k]? = some (ps[k]'(by rw [hi.plen]; exact hk)) := List.getElem?_eq_getElem _
    have := (hi.each k _ x hp (by rw [List.getElem?_eq_getElem hk, e])).1.ok.hashLen
    simpa using this
  have HFIT := Lib.hid (fits_few d h32)
  have HLEN := Lib.hid (enc_few_len d h32 true)
  have HCODF := Lib.hid (fun (S T R : Nat → Prop) (w : World) (iv ov : Value) (h : RTx S T R w iv ov (fewD 10 600 d)) => cod_few d h)
  obtain ⟨ia, ic, rfl, -⟩ := h.ins.any
  obtain ⟨oa, oc, rfl, -⟩ := h.outs.any
  clear h h32
  have HF := Lib.hid (fun W (hk : Keeps w W) => few_any d _ _ W (HT.out.keeps hk))
  have HAW := Lib.hid awake_any
  have hver : (fewD 10 600 d).ver = d.ver := rfl
  have hlock : (fewD 10 600 d).lock = d.lock := rfl
  obtain ⟨D, hD⟩ : ∃ D, D = fewD 10 600 d := ⟨_, rfl⟩
  rw [← hD] at hver hlock
  rw [← hD] at HFIT
  rw [← hD] at HLEN
  rw [← hD] at HCODF
  rw [← hD] at HF
  clear hD
  rw [← hver, ← hlock]
  rw [← hver, ← hlock] at HF
  have HV := Lib.hid hver; have HLK := Lib.hid hlock
  clear hver hlock
  generalize (Value.slice ia d.ins.length ic) = iv0 at *
  generalize (Value.slice oa d.outs.length oc) = ov0 at *
  go_enter Try.func3, Try.ntmps3
  go_upto_region 1 with (fail)
  refine wp_rows1 (fun W0 hk hr1 hs1 => ?_)
  simp only at hr1
  have HK := Lib.hid hk; have HR := Lib.hid hr1
  have hp : w.heap.size < W0.heap.size := by omega
  have HP := Lib.hid hp
  obtain ⟨p, hpe⟩ : ∃ p, p = w.heap.size := ⟨_, rfl⟩
  rw [← hpe] at HR HP ⊢
  have HPE := Lib.hid hpe
  clear hk hr1 hs1 hp hpe
  go_upto_region 4 with (first | (go_at_call 4; refine (HAW.out _).mono ?_; rintro e W2 ⟨rfl, hk2⟩; have HK2 := Lib.hid hk2; clear hk2) | ((with_reducible refine gate_load 26 (.tmp 1) ?_); refine wpList_load_at rfl 26 (.tmp 1) rfl p 0 rfl _ _ (HR.out.keeps HK2.out) Try.underlying26 rfl (sz_tx _ _ _ _) ?_) | (go_at_call 5; refine (HF.out _ (HK.out.trans HK2.out)).mono ?_; rintro e W3 ⟨iv3, ov3, rfl, hk3, S3, T3, ho3⟩; obtain ⟨ia3, ic3, rfl, -⟩ := ho3.rtx.ins.any; obtain ⟨oa3, oc3, rfl, -⟩ := ho3.rtx.outs.any; have HK3 := Lib.hid hk3; have HO3 := Lib.hid ho3; clear hk3 ho3) | ((with_reducible refine gate_store 26 (.tmp 1) (.tmp 14) ?_); refine wpList_store_row rfl 26 (.tmp 1) (.tmp 14) rfl p 0 rfl _ [.int .i32 D.ver, .slice ia3 _ ic3, .slice oa3 _ oc3, .int .u32 D.lock] rfl ((HR.out.keeps HK2.out).keeps HK3.out) rfl (sz_tx _ _ _ _) (by intro v hv; simp only [List.mem_cons, List.not_mem_nil, or_false] at hv; rcases hv with rfl | rfl | rfl | rfl <;> rfl) ?_; intro W7 hr7 hc7; have HR7 := Lib.hid hr7; have HC7 := Lib.hid hc7; clear hr7 hc7))
  have hp := HP.out; have hpe := HPE.out
  have hsz2 := HK2.out.size; have hsz3 := HK3.out.size; have hszk := HK.out.size
  have hown : OwnTx S3 T3 W2.heap.size W7 _ _ D := HO3.out.chg HC7.out (fun g e => .inl (by rw [e]; omega))
  have hk7 : Keeps w W7 := keeps_chg ((HK.out.trans HK2.out).trans HK3.out) HC7.out (by omega)
  have hrt : RTx S3 T3 AnyB W7 _ _ D := ⟨hown.ver, hown.lock, hown.ins.x.mono (fun _ h => h) (fun _ h => h) (fun _ _ => trivial), hown.outs.mono (fun _ h => h) (fun _ _ => trivial)⟩
  have hS3 : ∀ g, S3 g → g < W7.heap.size := fun g hg => (hown.fresh g (.inl hg)).2
  have HRT := Lib.hid hrt; have HS3 := Lib.hid hS3; have HKW := Lib.hid hk7
  clear hown hrt hS3 hk7 HO3 HC7 HK2 HK3 HK HP HPE hp hpe hsz2 hsz3 hszk HF HAW HT HR HV HLK
  obtain ⟨EA, hEA⟩ : ∃ EA, EA = encB D false := ⟨_, rfl⟩
  obtain ⟨EB, hEB⟩ : ∃ EB, EB = encB D true := ⟨_, rfl⟩
  have HE1 := Lib.hid (fun W (hk : Keeps W7 W) => enc_any S3 T3 AnyB D _ _ false HFIT.out W (HRT.out.keeps hk) (fun g hg => Nat.lt_of_lt_of_le (HS3.out g hg) hk.size))
  have HE2 := Lib.hid (fun W (hk : Keeps W7 W) => enc_any S3 T3 AnyB D _ _ true HFIT.out W (HRT.out.keeps hk) (fun g hg => Nat.lt_of_lt_of_le (HS3.out g hg) hk.size))
  have HE3 := Lib.hid (fun W (hk : Keeps W7 W) => renc_any S3 T3 AnyB D _ _ false HFIT.out W (HRT.out.keeps hk))
  have HE4 := Lib.hid (fun W (hk : Keeps W7 W) => renc_any S3 T3 AnyB D _ _ true HFIT.out W (HRT.out.keeps hk))
  have HBA := Lib.hid (HRT.out.bytesY false); have HBB := Lib.hid (HRT.out.bytesY true)
  have HLA := Lib.hid (enc_le D false HFIT.out)
  have HCOD := Lib.hid (HCODF.out _ _ _ _ _ _ HRT.out)
  have HDEC := Lib.hid (fun (hne : D.ins ≠ []) => decTx_app D HCOD.out hne HLEN.out)
  have HRTA := Lib.hid (fun W (hk : Keeps W7 W) => (HRT.out.keeps hk).mono (S' := AnyB) (T' := AnyB) (R' := AnyB) (fun _ _ => trivial) (fun _ _ => trivial) (fun _ _ => trivial))
  rw [← hEA] at HE1 HE3 HBA HLA
  rw [← hEB] at HE2 HE4 HBB HLEN HDEC
  clear hEA hEB HCODF HCOD
  refine wp_region_head (S := fun W => Hid ((fun W => Row W p 0 [.int .i32 D.ver, .slice ia3 D.ins.length ic3, .slice oa3 D.outs.length oc3, .int .u32 D.lock]) W)) 4 (by kernel_rfl) (by kernel_rfl) ?_ (fun hHeld => ?_)
  focus exact Lib.hid HR7.out.drew
  refine wpAnyHL_take (i := 0) (oi := ?_) (v := ?_) ?_ ?_ ?_ ?_ ?_ ?_ ?_ ?_ ?_ (Or.inl ⟨?_, ?_⟩) ?_ ?_
  rotate_left 2
  focus (simp only [List.getElem?_toArray, List.getElem?_cons_succ, List.getElem?_cons_zero]; exact rfl)
  focus kernel_rfl
  focus kernel_rfl
  focus kernel_rfl
  focus kernel_rfl
  focus kernel_rfl
  focus kernel_rfl
  focus kernel_rfl
  focus (exact fun _ _ _ h => h)
  focus rfl
  focus (intro wSw hSw; (have hSw := hSw.out); (refine run_load_row 26 (.tmp 1) ?_ p 0 ?_ _ _ hSw Try.underlying26 rfl (sz_tx _ _ _ _)) <;> rfl)
  focus assumption
  try simp only [Act.put, List.setIfInBounds_toArray, List.set_cons_zero, List.set_cons_succ]
  refine wpAnyHL_take (i := 2) (oi := ?_) (v := ?_) ?_ ?_ ?_ ?_ ?_ ?_ ?_ ?_ ?_ (Or.inl ⟨?_, ?_⟩) ?_ ?_
  rotate_left 2
  focus (simp only [List.getElem?_toArray, List.getElem?_cons_succ, List.getElem?_cons_zero]; exact rfl)
  focus kernel_rfl
  focus kernel_rfl
  focus kernel_rfl
  focus kernel_rfl
  focus kernel_rfl
  focus kernel_rfl
  focus kernel_rfl
  focus (exact fun _ _ _ h => h)
  focus rfl
  focus (intro wSw hSw; (have hSw := hSw.out); (refine run_load_row 26 (.tmp 1) ?_ p 0 ?_ _ _ hSw Try.underlying26 rfl (sz_tx _ _ _ _)) <;> rfl)
  focus assumption
  try simp only [Act.put, List.setIfInBounds_toArray, List.set_cons_zero, List.set_cons_succ]
  refine wpAnyHL_one (i := 1) (o := ?_) (by kernel_rfl) (by kernel_rfl) ?_ ?_
  rotate_left 1
  focus (simp only [List.getElem?_toArray, List.getElem?_cons_succ, List.getElem?_cons_zero]; exact rfl)
  go_wp2_with (go_at_call 6; refine (HE1.out _ (keeps_drew (Keeps.refl _))).mono ?_; rintro e W10 ⟨v10, rfl, hO10⟩; obtain ⟨a10, c10, rfl⟩ := hO10.any; have HO10 := Lib.hid hO10; clear hO10)
  try dsimp only [StepQ]
  refine ⟨?_, fun hHeld => ?_⟩
  focus (exact Lib.hid ((HR7.out.drew.keeps HO10.out.keeps)))
  try simp only [Act.put, List.setIfInBounds_toArray, List.set_cons_zero, List.set_cons_succ]
  refine wpAnyHL_one (i := 3) (o := ?_) (by kernel_rfl) (by kernel_rfl) ?_ ?_
  rotate_left 1
  focus (simp only [List.getElem?_toArray, List.getElem?_cons_succ, List.getElem?_cons_zero]; exact rfl)
  go_wp2_with (go_at_call 6; refine (HE2.out _ ((keeps_drew (Keeps.refl _)).trans HO10.out.keeps)).mono ?_; rintro e W11 ⟨v11, rfl, hO11⟩; obtain ⟨a11, c11, rfl⟩ := hO11.any; have HO11 := Lib.hid hO11; clear hO11)
  try dsimp only [StepQ]
  refine ⟨?_, fun hHeld => ?_⟩
  focus (exact Lib.hid (((HR7.out.drew.keeps HO10.out.keeps).keeps HO11.out.keeps)))
  try simp only [Act.put, List.setIfInBounds_toArray, List.set_cons_zero, List.set_cons_succ]
  refine wpAnyHL_done (by kernel_rfl) ?_
  try simp only [List.drop_succ_cons, List.drop_zero]
  clear hHeld
  have HK11 := Lib.hid (((keeps_drew (Keeps.refl W7)).trans HO10.out.keeps).trans HO11.out.keeps)
  have HB10 := Lib.hid ((HO10.out.rb HBA.out (by have := HLA.out; omega)).keeps HO11.out.keeps)
  have HB11 := Lib.hid (HO11.out.rb HBB.out (by have := HLEN.out; omega))
  have HR11 := Lib.hid (HR7.out.keeps HK11.out)
  clear HO10 HO11 HE1 HE2
  go_upto_region 7 with (first
    | ((with_reducible refine gate_load 26 (.tmp 1) ?_); refine wpList_load_at rfl 26 (.tmp 1) rfl p 0 rfl _ _ HR11.out Try.underlying26 rfl (sz_tx _ _ _ _) ?_)
    | ((with_reducible refine gate_load 26 (.tmp 1) ?_); refine wpList_load_on (by kernel_rfl) 26 (.tmp 1) rfl p 0 rfl _ _ HR12.out Try.underlying26 rfl (sz_tx _ _ _ _) ?_)
    | (go_at_call 8; (with_reducible refine (HE3.out _ HK11.out).mono ?_); rintro e W12 ⟨v12, rfl, hO12⟩; obtain ⟨a12, c12, rfl⟩ := hO12.any; have HO12 := Lib.hid hO12; have HK12 := Lib.hid (HK11.out.trans hO12.keeps); have HR12 := Lib.hid (HR11.out.keeps hO12.keeps); have HB12 := Lib.hid (hO12.rb HBA.out (by have := HLA.out; omega)); have HB10' := Lib.hid (HB10.out.keeps hO12.keeps); have HB11' := Lib.hid (HB11.out.keeps hO12.keeps); clear hO12)
    | (go_at_call 8; (with_reducible refine (HE4.out _ HK12.out).mono ?_); rintro e W13 ⟨v13, rfl, hO13⟩; obtain ⟨a13, c13, rfl⟩ := hO13.any; have HO13 := Lib.hid hO13; have HK13 := Lib.hid (HK12.out.trans hO13.keeps); have HR13 := Lib.hid (HR12.out.keeps hO13.keeps); have HB13 := Lib.hid (hO13.rb HBB.out (by have := HLEN.out; omega)); have HB11'' := Lib.hid (HB11'.out.keeps hO13.keeps); clear hO13)
    | (go_at_call 7; first
        | ((with_reducible refine (requal_any HB10'.out HB12.out).mono ?_); rintro r W ⟨rfl, rfl⟩)
        | ((with_reducible refine (requal_any HB11''.out HB13.out).mono ?_); rintro r W ⟨rfl, rfl⟩)))
  obtain ⟨b0, b1, b2, b3⟩ := HR13.out.cell4
  have hlB : (EB.length : Int) ≤ 100000 := by have := HLEN.out; omega
  by_cases hin : D.ins.length = 0
  focus
    have hin2 : (D.ins.length : Int) = 0 := by omega
    go_wp2_with (first
      | (go_at_call 9; refine (decode_weak _ EB _ HB11''.out.rd (by have := HLEN.out; omega) HBB.out).mono ?_; intro r W14 hpst; obtain ⟨hk14, x1, x2, a1, a2, n1, c1, n2, c2, rfl⟩ := hpst; have HK14 := Lib.hid hk14; clear hk14)
      | ((with_reducible refine gate_store 26 (.tmp 5) (.tmp 38) ?_); refine wpList_store_row rfl 26 (.tmp 5) (.tmp 38) rfl W14.heap.size 0 rfl _ [.int .i32 x1, .slice a1 n1 c1, .slice a2 n2 c2, .int .u32 x2] rfl (Row.new [.int .i32 0, .slice none 0 0, .slice none 0 0, .int .u32 0] _ _ rfl) rfl (sz_tx _ _ _ _) (four_one _ _ _ _ _ _ _ _) ?_; intro W15 hr15 hc15; have HK15 := Lib.hid (keeps_chg (keeps_alloc HK14.out _) hc15 HK14.out.size); clear hr15 hc15)
      | (go_at_call 10; refine (rdecode_weak _ _ EB W15 (HB11''.out.keeps HK15.out)).mono ?_; intro r W16 hpst; obtain ⟨hk16, x3, x4, a3, a4, n3, c3, n4, c4, rfl⟩ := hpst; have HK16 := Lib.hid (HK15.out.trans hk16); clear hk16)
      | ((with_reducible refine gate_store 26 (.tmp 7) (.tmp 43) ?_); refine wpList_store_row rfl 26 (.tmp 7) (.tmp 43) rfl W16.heap.size 0 rfl _ [.int .i32 x3, .slice a3 n3 c3, .slice a4 n4 c4, .int .u32 x4] rfl (Row.new [.int .i32 0, .slice none 0 0, .slice none 0 0, .int .u32 0] _ _ rfl) rfl (sz_tx _ _ _ _) (four_one _ _ _ _ _ _ _ _) ?_; intro W17 hr17 hc17; have HK17 := Lib.hid (keeps_chg (keeps_alloc HK16.out _) hc17 HK16.out.size); clear hr17 hc17))
    go_ret
    exact ⟨rfl, (HKW.out.trans HK13.out).trans HK17.out⟩
  focus
    have hin2 : ¬ (D.ins.length : Int) = 0 := by omega
    have hd := HDEC.out (fun e => hin (by rw [e]; rfl))
    have HD := Lib.hid hd
    clear hd
    go_wp2_with (first
      | (go_at_call 9; refine (decode_back D _ EB _ HB11''.out.rd (by have := HLEN.out; omega) HBB.out HD.out).mono ?_; intro r W14 hpst; obtain ⟨hk14, a1, a2, c1, c2, rfl, hrt⟩ := hpst; have HK14 := Lib.hid hk14; have HRT14 := Lib.hid hrt; clear hk14 hrt)
      | ((with_reducible refine gate_store 26 (.tmp 9) (.tmp 51) ?_); refine wpList_store_row rfl 26 (.tmp 9) (.tmp 51) rfl W14.heap.size 0 rfl _ [.int .i32 D.ver, .slice a1 D.ins.length c1, .slice a2 D.outs.length c2, .int .u32 D.lock] rfl (Row.new [.int .i32 0, .slice none 0 0, .slice none 0 0, .int .u32 0] _ _ rfl) rfl (sz_tx _ _ _ _) (four_one _ _ _ _ _ _ _ _) ?_; intro W15 hr15 hc15; have HR15 := Lib.hid hr15; have HKB := Lib.hid (keeps_chg (keeps_alloc (Keeps.refl W14) _) hc15 (Nat.le_refl _)); have HRP := Lib.hid ((HR13.out.keeps HK14.out).keeps HKB.out); have HRT15 := Lib.hid (HRT14.out.keeps HKB.out); have HK15 := Lib.hid ((HK13.out.trans HK14.out).trans HKB.out); clear hr15 hc15)
      | ((with_reducible refine gate_load 26 (.tmp 9) ?_); refine wpList_load_on (by kernel_rfl) 26 (.tmp 9) rfl W14.heap.size 0 rfl _ _ (by first | exact HR15.out | exact HR15.out.keeps HK16.out) Try.underlying26 rfl (sz_tx _ _ _ _) ?_)
      | ((with_reducible refine gate_load 26 (.tmp 1) ?_); refine wpList_load_on (by kernel_rfl) 26 (.tmp 1) rfl p 0 rfl _ _ (by first | exact HRP.out | exact HRP.out.keeps HK16.out) Try.underlying26 rfl (sz_tx _ _ _ _) ?_)
      | (go_at_call 11; refine (rsame_any D D _ _ _ _ _ HRT15.out (HRTA.out _ HK15.out)).mono ?_; rintro r W16 ⟨hr16, hk16⟩; rw [decide_eq_true rfl] at hr16; subst hr16; have HK16 := Lib.hid hk16; clear hk16)
      | (go_at_call 12; refine (same_any D D _ _ _ _ _ (HRT15.out.keeps HK16.out) (HRTA.out _ (HK15.out.trans HK16.out))).mono ?_; rintro r W17 ⟨hr17, hk17⟩; rw [decide_eq_true rfl] at hr17; subst hr17; have HK17 := Lib.hid hk17; clear hk17))
    go_ret
    exact ⟨rfl, (HKW.out.trans HK15.out).trans (HK16.out.trans HK17.out)⟩
end Go.Proofs.Ytcodpdpeklammaa
