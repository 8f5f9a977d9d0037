/- The reference's HMAC with SHA-512 (strongboxref02.Hmac512). -/
import Derived.Test.YthfepfpmkckdnaaDoorHmac
namespace Go.Proofs.YthfepfpmkckdnaaDoor.B64
set_option linter.unusedVariables false
set_option linter.unusedSimpArgs false
open Go Go.RowKit

/-- the key, and so many noughts behind it -/
def hfill (l : List Int) (j : Nat) : List Int := l ++ List.replicate j 0
theorem hfill_succ (l : List Int) (j : Nat) : hfill l j ++ [0] = hfill l (j + 1) := by simp [hfill, List.replicate_succ']
theorem hxor_succ (c : Int) (l : List Int) (i : Nat) (h : i < l.length) : hxor c (l.take i) ++ [bits .xor .u8 (l.getD i 0) c] = hxor c (l.take (i + 1)) := by
  rw [List.take_succ_eq_append_getElem h]
  simp only [hxor, List.map_append, List.map_cons, List.map_nil, List.getD, List.getElem?_eq_getElem h, Option.getD_some]
/-- two slices of one's own that lie apart -/
def Two (W : World) (x v : Value) : Prop := Apart W x v ∧ Apart W v x
theorem Two.symm {W : World} {x v : Value} (h : Two W x v) : Two W v x := ⟨h.2, h.1⟩
theorem Two.grown {w W W' : World} {x v v' : Value} {n : Nat} {l : List Int} (h : Two W x v) (hg : Grown W W' v v') (hb : Own w W' v' n l) : Two W' x v' := by
  refine ⟨h.1.grown hg, fun g e => ⟨hb.buf.lt e, fun e2 => ?_⟩⟩
  rcases hg.2 with e3 | ⟨g', e3, e4⟩
  · rw [e3] at e; exact (h.2 g e).2 e2
  · rw [e3] at e; cases e; have := (h.1 _ e2).1; omega
theorem own_grown {w W W' : World} {x v v' : Value} {n m : Nat} {l r : List Int} (h : Own w W x n l) (ha : Apart W x v) (hg : Grown W W' v v') (hv : Own w W v m r) : Own w W' x n l := by
  refine ⟨Below.trans h.keeps (hg.1.below h.keeps.size (fun k hk e => by have := hv.new k e; omega)), h.buf.chg hg.1 (fun g e e2 => (ha g e).2 e2), h.new⟩
theorem own_from {w W1 W : World} {v : Value} {n : Nat} {l : List Int} (h : Own W1 W v n l) (hk : Keeps w W1) : Own w W v n l :=
  ⟨hk.trans h.keeps, h.buf, fun g e => Nat.le_trans hk.size (h.new g e)⟩
set_option maxHeartbeats 4000000 in
set_option maxRecDepth 100000 in
theorem ref_hmac (kv bv : Value) (kn n : Nat) (ks zs : List Int) (w : World) (hrk : Rd w 1 kv kn (ks.map (Value.int .u8))) (hbk : Bytes ks) (hkn : kn ≤ 1000000) (hrb : Rd w 1 bv n (zs.map (Value.int .u8))) (hzb : Bytes zs) (hn : n ≤ 1000000) :
    Calls Tryd.prog 18 #[kv, bv] w fun e w' => e = .returned (.agg ((hmac ks zs).map (Value.int .u8)).toArray) ∧ Keeps w w' := by
  have hkl : ks.length = kn := by have := hrk.1; simpa using this
  have hzl : zs.length = n := by have := hrb.1; simpa using this
  have hkb := hkey_bytes hbk
  have hpl := hpad_length ks
  have hkl2 := hkey_length ks
  have hpd : hpad ks = hfill (hkey ks) (128 - (hkey ks).length) := rfl
  have hhm : hmac ks zs = sha512 (hxor 92 (hpad ks) ++ sha512 (hxor 54 (hpad ks) ++ zs)) := rfl
  have hkA : kn ≤ 128 → hkey ks = ks := fun h => by unfold hkey; rw [if_pos (by omega)]
  have hkB : ¬ kn ≤ 128 → hkey ks = sha512 ks := fun h => by unfold hkey; rw [if_neg (by omega)]
  rw [hhm]
  obtain ⟨ka, kcap, rfl⟩ : ∃ a cap, kv = .slice a kn cap := by obtain ⟨_, a, cap, h, _⟩ := hrk; exact ⟨a, cap, h⟩
  obtain ⟨ba, bcap, rfl⟩ : ∃ a cap, bv = .slice a n cap := by obtain ⟨_, a, cap, h, _⟩ := hrb; exact ⟨a, cap, h⟩
  have HRK := Lib.hid hrk; have HRB := Lib.hid hrb; have HBK := Lib.hid hbk; have HZB := Lib.hid hzb; have HPL := Lib.hid hpl; have HKL := Lib.hid hkl; have HKL2 := Lib.hid hkl2; have HKA := Lib.hid hkA; have HKB := Lib.hid hkB; have HZL := Lib.hid hzl; have HPD := Lib.hid hpd
  have HSL := Lib.hid (sha512_length ks)
  clear hrk hrb hbk hzb hkb hpl hhm hkl hkl2 hkA hkB hzl hpd
  generalize hpad ks = hp at *
  generalize hkey ks = hk0 at *
  generalize hsk : sha512 ks = sk at *
  have HSK := Lib.hid hsk
  clear hsk
  go_enter Tryd.func18, Tryd.ntmps18
  go_upto_region 1 with (fail)
  obtain ⟨p4, hp4⟩ : ∃ p, p = w.heap.size := ⟨_, rfl⟩
  have hk1 : Keeps w (w.alloc (.cells (List.replicate 64 (Value.int .u8 0)).toArray 49)) := keeps_alloc (Keeps.refl w) _
  have hr1 : Row (w.alloc (.cells (List.replicate 64 (Value.int .u8 0)).toArray 49)) p4 0 (List.replicate 64 (Value.int .u8 0)) := by rw [hp4]; exact Row.new _ _ _ rfl
  rw [← hp4]
  have HP4 := Lib.hid hp4
  clear hp4
  refine wp_gen (fun W => Keeps w W ∧ Row W p4 0 (List.replicate 64 (Value.int .u8 0))) ⟨hk1, hr1⟩ ?_
  clear hk1 hr1
  intro W1 ⟨hk1, hr1⟩
  have HK1 := Lib.hid hk1; have HR1 := Lib.hid hr1
  clear hk1 hr1
  go_upto_region 2 with (refine own_append rfl (.tmp 11) (.tmp 12) rfl (Own.made W1 5) (Keeps.refl _) rfl _ rfl kn ks (Rd.src ((HRK.out.keeps HK1.out).keeps (Own.made W1 5).keeps) Tryd.underlying22 (int_oneCell ks)) (by omega) ?_; intro v2 W2 hO2 hG2; rw [Nat.zero_add, List.nil_append] at hO2; have HO2 := Lib.hid hO2; clear hO2 hG2)
  have hcase : (kn : Int) ≤ 128 ∨ (128 : Int) < kn := by omega
  rcases hcase with hc | hc
  focus
    have e1 := HKA.out (by omega)
    have HO := Lib.hid (show Own W1 W2 v2 hk0.length (hfill hk0 0) by rw [e1, HKL.out]; simpa [hfill] using HO2.out)
    obtain ⟨ca, cc, rfl⟩ := HO2.out.any
    have HKN := Lib.hid (show (kn : Nat) = hk0.length by rw [e1, HKL.out])
    clear e1 HKA HKB HO2
    go_upto_region 5 with (fail)
  rotate_left
  focus
    have e1 := HKB.out (by omega)
    have HO3 := HO2
    obtain ⟨ca, cc, rfl⟩ := HO3.out.any
    go_upto_region 5 with (first | (go_at_call 31; refine (ref_sum512 _ kn ks _ HO2.out.rd HBK.out (by omega)).mono ?_; rintro e W3 ⟨rfl, hk3⟩; have HK3 := Lib.hid hk3; clear hk3) | (refine wpList_store_row rfl 49 (.tmp 6) (.tmp 18) rfl W3.heap.size 0 rfl (List.replicate 64 (Value.int .u8 0)) ((sha512 ks).map (Value.int .u8)) rfl (Row.new _ _ _ rfl) (by rw [List.length_map, sha512_length]; rfl) (by rw [List.length_map, sha512_length]; exact sz64) (int_oneCell _) ?_; intro W4 hr4 hc4; have HR4 := Lib.hid hr4; have HC4 := Lib.hid hc4; clear hr4 hc4) | (refine own_append rfl (.tmp 19) (.tmp 20) rfl (Own.made W4 5) (Keeps.refl _) rfl _ rfl 64 (sha512 ks) (Rd.src (Rd.of_row (HR4.out.keeps (Own.made W4 5).keeps) (by simp [sha512_length]) (by have := HR4.out.lt (by intro e; have := congrArg List.length e; rw [List.length_map, sha512_length] at this; simp at this); have := (Own.made W4 5).keeps.size; omega) (by omega) (by unfold maxLen; omega)) Tryd.underlying22 (int_oneCell _)) (by omega) ?_; intro v5 W5 hO5 hG5; rw [Nat.zero_add, List.nil_append] at hO5; have HO5 := Lib.hid hO5; clear hO5 hG5))
    have hO5 : Own W1 W5 v5 hk0.length (hfill hk0 0) := by
      have h := own_from HO5.out (HO3.out.keeps.trans (keeps_chg (keeps_alloc HK3.out _) HC4.out HK3.out.size))
      rw [e1, HSL.out, ← HSK.out]; simpa [hfill] using h
    have HO := Lib.hid hO5
    have HKN := Lib.hid (show (64 : Nat) = hk0.length by rw [e1, HSL.out])
    obtain ⟨da, dc, rfl⟩ := HO5.out.any
    clear e1 HKA HKB HO2 HO3 HK3 HR4 HC4 HO5 hO5
  all_goals
    go_loopw [5] (fun c wr => ∃ j : Nat, hk0.length + j ≤ 128 ∧ Own W1 wr c (hk0.length + j) (hfill hk0 j)) (fun c _ => 128 - slLen c)
    case atStart => exact ⟨0, by have := HKL2.out; omega, by rw [HKN.out, Nat.add_zero]; rw [← HKN.out]; rw [← HKN.out] at HO; exact HO.out⟩
    case round =>
      obtain ⟨j, hj, hO⟩ := hrel
      obtain ⟨ea, ec, rfl⟩ := hO.any
      have HO := Lib.hid hO
      clear hO
      by_cases hlt : hk0.length + j < 128
      · go_wp2_with (refine own_append1 rfl (.tmp 25) (.tmp 26) rfl HO.out rfl 1 _ _ rfl (by omega) ?_; clear HO; intro v1 w1 hO1 hG1; rw [hfill_succ] at hO1; have HO := Lib.hid hO1; clear hO1 hG1)
        obtain ⟨fa, fc, rfl⟩ := HO.out.any
        go_roundw
        case rel => exact ⟨j + 1, by omega, HO.out⟩
        case measure => simp [slLen]; omega
      · have hjj : hk0.length + j = 128 := by omega
        have hj2 : j = 128 - hk0.length := by omega
        have hO := HO.out
        rw [hj2, ← HPD.out, ← hj2, hjj] at hO
        rw [hjj]
        have HO1 := Lib.hid hO
        clear hO HO hj2 hlt hj hjj
        obtain ⟨wl, hwl⟩ : ∃ wl, wl = wr := ⟨_, rfl⟩
        subst hwl
        obtain ⟨g, off, rfl, hg, hrow⟩ : ∃ g off, ea = some ⟨g, off, none⟩ ∧ g < wl.heap.size ∧ Row wl g off (hp.map (Value.int .u8)) := by
          have hR := HO1.out.rd
          obtain ⟨_, a', c', e, _, _, h4, h5⟩ := hR
          cases e
          cases ea with
          | none => have := (h4 rfl).1; omega
          | some ad => obtain ⟨g, off, e2, e3, e4⟩ := h5 ad rfl (by omega); exact ⟨g, off, by rw [e2], e3, e4⟩
        have HROW := Lib.hid hrow
        clear hrow
        go_wp2
        go_loopw [7, 8, 9] (fun ci co cx wr => ∃ i : Nat, i ≤ 128 ∧ cx = .int .i64 i ∧ Own wl wr ci i (hxor 54 (hp.take i)) ∧ Own wl wr co i (hxor 92 (hp.take i)) ∧ Two wr co ci) (fun _ _ cx _ => (128 - intOf cx).toNat)
        case atStart => exact ⟨0, by omega, rfl, Own.nil _, Own.nil _, fun g h => by simp [Value.ownBlock] at h, fun g h => by simp [Value.ownBlock] at h⟩
        case round =>
          obtain ⟨i, hi, rfl, hOI, hOO, hTW⟩ := hrel
          obtain ⟨ia, ic, rfl⟩ := hOI.any
          obtain ⟨oa, oc, rfl⟩ := hOO.any
          by_cases hlt : i < 128
          · have c1 := (HROW.out.keeps hOI.keeps).int i (by rw [HPL.out]; exact hlt)
            have HX1 := Lib.hid (hxor_succ 54 hp i (by rw [HPL.out]; exact hlt))
            have HX2 := Lib.hid (hxor_succ 92 hp i (by rw [HPL.out]; exact hlt))
            have HOI := Lib.hid hOI; have HOO := Lib.hid hOO; have HTW := Lib.hid hTW
            clear hOI hOO hTW
            generalize hx : hp.getD i 0 = x at *
            have HXX := Lib.hid hx
            clear hx
            go_wp2_with (first | (refine own_append1 rfl (.tmp 32) (.tmp 38) rfl HOI.out rfl 1 _ _ rfl (by omega) ?_; intro v1 w1 hO1 hG1; have hTW1 := HTW.out.grown hG1 hO1; have hOO1 := own_grown HOO.out HTW.out.1 hG1 HOI.out; have HOI1 := Lib.hid hO1; have HOO1 := Lib.hid hOO1; have HTW1 := Lib.hid hTW1; have c2 := (HROW.out.keeps hO1.keeps).int i (by rw [HPL.out]; exact hlt); rw [HXX.out] at c2; clear hO1 hG1 hTW1 hOO1 HOI HOO HTW) | (refine own_append1 rfl (.tmp 40) (.tmp 46) rfl HOO1.out rfl 1 _ _ rfl (by omega) ?_; intro v2 w2 hO2 hG2; have HTW2 := Lib.hid (HTW1.out.symm.grown hG2 hO2); have HOI2 := Lib.hid (own_grown HOI1.out HTW1.out.2 hG2 HOO1.out); have HOO2 := Lib.hid hO2; clear hO2 hG2 HOI1 HOO1 HTW1))
            go_roundw
            case rel => exact ⟨i + 1, by omega, by go_num, by rw [← HX1.out]; exact HOI2.out, by rw [← HX2.out]; exact HOO2.out, HTW2.out.symm⟩
            case measure => simp [intOf]; omega
          · obtain rfl : i = 128 := by omega
            rw [List.take_of_length_le (by rw [HPL.out]; omega)] at hOI hOO
            have HOI := Lib.hid hOI; have HOO := Lib.hid hOO; have HTW := Lib.hid hTW
            have HKWr := Lib.hid (HK1.out.trans (HO1.out.keeps.trans hOI.keeps))
            have HKLr := Lib.hid hOI.keeps
            clear hOI hOO hTW
            go_upto_region 14 with (first | (refine own_append rfl (.tmp 48) (.tmp 49) rfl HOI.out (Keeps.refl _) rfl _ rfl n zs (Rd.src (HRB.out.keeps HKWr.out) Tryd.underlying22 (int_oneCell zs)) (by omega) ?_; intro v8 W8 hO8 hG8; have HO8 := Lib.hid hO8; have HG8 := Lib.hid hG8; clear hO8 hG8) | (go_at_call 31; refine (ref_sum512 _ (128 + n) (hxor 54 hp ++ zs) _ HO8.out.rd (fun x hx => by rcases List.mem_append.1 hx with h | h; exact hxor_bytes 54 hp x h; exact HZB.out x h) (by omega)).mono ?_; rintro e W9 ⟨rfl, hk9⟩; have HK9 := Lib.hid hk9; clear hk9) | (refine wpList_store_row rfl 49 (.tmp 10) (.tmp 51) rfl W9.heap.size 0 rfl (List.replicate 64 (Value.int .u8 0)) ((sha512 (hxor 54 hp ++ zs)).map (Value.int .u8)) rfl (Row.new _ _ _ rfl) (by rw [List.length_map, sha512_length]; rfl) (by rw [List.length_map, sha512_length]; exact sz64) (int_oneCell _) ?_; intro W10 hr10 hc10; have HR10 := Lib.hid hr10; have HC10 := Lib.hid hc10; clear hr10 hc10))
            have hO9 := (own_grown HOO.out HTW.out.1 HG8.out HOI.out).step (HK9.out.trans (keeps_chg (keeps_alloc (Keeps.refl W9) _) HC10.out (Nat.le_refl _)))
            have hq9 : W9.heap.size < W10.heap.size := HR10.out.lt (by intro e; have := congrArg List.length e; rw [List.length_map, sha512_length] at this; simp at this)
            have hd1 := sha512_length (hxor 54 hp ++ zs)
            have HDB := Lib.hid (sha512_bytes (hxor 54 hp ++ zs))
            generalize hde : sha512 (hxor 54 hp ++ zs) = d1 at *
            have HDE := Lib.hid hde
            clear hde
            have HO9 := Lib.hid (own_from (own_from hO9 HO1.out.keeps) HK1.out)
            have HRD := Lib.hid (show Rd W10 1 (.slice (some ⟨W9.heap.size, 0, none⟩) 64 64) 64 (d1.map (Value.int .u8)) from Rd.of_row HR10.out (by simp [hd1]) hq9 (by omega) (by unfold maxLen; omega))
            have HR4c := Lib.hid (HR1.out.keeps (HO1.out.keeps.trans hO9.keeps))
            have HNE := Lib.hid (show ∀ g, (Value.slice oa 128 oc).ownBlock = some g → g ≠ p4 from fun g e => by have h1 := hO9.new g e; have h2 := HO1.out.keeps.size; have h3 := HR1.out.lt (by simp); omega)
            have HD1 := Lib.hid hd1
            clear hO9 hd1 HOI HOO HTW HKWr HKLr HO8 HG8 HK9 HC10 HR10
            generalize W9.heap.size = q9 at *
            go_wp2_with (first | (refine own_append rfl (.tmp 52) (.tmp 53) rfl HO9.out (Keeps.refl W10) rfl _ rfl 64 d1 (Rd.src (HRD.out.keeps (Keeps.refl W10)) Tryd.underlying22 (int_oneCell d1)) (by omega) ?_; intro v12 W12 hO12 hG12; have HO12 := Lib.hid hO12; have HG12 := Lib.hid hG12; clear hO12 hG12) | (go_at_call 31; refine (ref_sum512 _ (128 + 64) (hxor 92 hp ++ d1) _ HO12.out.rd (fun x hx => by rcases List.mem_append.1 hx with h | h; exact hxor_bytes 92 hp x h; exact HDB.out x h) (by omega)).mono ?_; rintro e W13 ⟨rfl, hk13⟩; have HK13 := Lib.hid hk13; clear hk13) | (refine wpList_store_row rfl 49 (.tmp 4) (.tmp 55) rfl p4 0 rfl (List.replicate 64 (Value.int .u8 0)) ((sha512 (hxor 92 hp ++ d1)).map (Value.int .u8)) rfl ((HR4c.out.chg HG12.out.1 (fun e => HNE.out _ e rfl)).keeps HK13.out) (by rw [List.length_map, sha512_length]; rfl) (by rw [List.length_map, sha512_length]; exact sz64) (int_oneCell _) ?_; intro W14 hr14 hc14; have HR14 := Lib.hid hr14; have HC14 := Lib.hid hc14; clear hr14 hc14))
            exact bodyPost_ret (v := .agg ((sha512 (hxor 92 hp ++ d1)).map (Value.int .u8)).toArray) (results_cell_at (p := 4) (ty := 49) rfl _ _ p4 0 _ _ rfl HR14.out Tryd.underlying49 rfl (by rw [List.length_map, sha512_length]; exact sz64)) rfl ⟨by rw [HDE.out], keeps_chg (HO12.out.keeps.trans HK13.out) HC14.out (by have := HP4.out; omega)⟩
end Go.Proofs.YthfepfpmkckdnaaDoor.B64
