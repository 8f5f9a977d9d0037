/- strongboxlaw05.CurveOther: the walk. No condition. -/
import Derived.Test.YtajipagpdphejaaGE5
import Derived.Laws.BitsAllLaws
namespace Go.Proofs.Ytajipagpdphejaa
set_option linter.unusedVariables false
set_option linter.unusedSimpArgs false
open Go Go.RowKit Cv

theorem xor_byte {x y : Int} (h : 0 ≤ x ∧ x < 256) (h0 : 0 ≤ y) (h1 : y < 256) : 0 ≤ bits .xor .u8 x y ∧ bits .xor .u8 x y < 256 := by
  rw [u8_xor x y h.1 h.2 h0 h1]
  have := Nat.xor_lt_two_pow (n := 8) (x := x.toNat) (y := y.toNat) (by omega) (by omega)
  omega
theorem bytes_set {l : List Int} (h : Bytes l) (i : Nat) {v : Int} (h0 : 0 ≤ v) (h1 : v < 256) : Bytes (l.set i v) := fun x hx => by
  rcases List.mem_or_eq_of_mem_set hx with h2 | h2
  · exact h x h2
  · subst h2; exact ⟨h0, h1⟩
theorem bytes_getD {l : List Int} (h : Bytes l) (i : Nat) : 0 ≤ l.getD i 0 ∧ l.getD i 0 < 256 := by
  rw [List.getD_eq_getElem?_getD]
  cases hi : l[i]? with
  | none => exact ⟨by simp, by simp⟩
  | some x => exact h x (List.mem_of_getElem? hi)
theorem tmod64 (n : Int) : -64 < n.tmod 64 ∧ n.tmod 64 < 64 := by
  rcases Int.le_total 0 n with h | h
  · rw [Int.tmod_eq_emod_of_nonneg h]; omega
  · have e : n = -(-n) := by omega
    rw [e, Int.neg_tmod, Int.tmod_eq_emod_of_nonneg (by omega)]; omega
theorem ver_short1 (P M S : List Int) (h : P.length = 33) : verV (P.take 32) M S = false := by
  unfold verV unpN
  rw [if_neg (c := (P.take 32).length = 33 ∧ _) (by rw [List.length_take, h]; simp)]
  split <;> rfl
theorem ver_short2 (P M S : List Int) (h : S.length = 64) : verV P M (S.take 63) = false := by
  unfold verV
  rw [if_neg (by rw [List.length_take, h]; decide)]
theorem b63_bytes {l : List Int} (h : Bytes l) (n : Nat) : Bytes (l.take n) := fun x hx => h x (List.mem_of_mem_take hx)
set_option maxRecDepth 100000 in
/-- an int that came in -/
theorem int_arg {H : Type} {enc : TypeId × Value → H} {W : World} {base : Nat} {v : Value} {d : DataW H} {p : List MemPlace} (hv : Value.okWide Try.prog W .any base 3 v) (h : DataW.Trod enc Try.prog W 0 (fun _ => true) true 3 v d p) : ∃ n : Int, v = .int .i64 n ∧ -9223372036854775808 ≤ n ∧ n ≤ 9223372036854775807 := by
  obtain ⟨n, rfl⟩ := Go.WideShapes.okWide_int Try.underlying3 hv
  obtain ⟨fuel, hf⟩ := h
  obtain ⟨a, ea, _, wa⟩ := DataW.trod_int Try.underlying3 hf
  have e : n = a := by simpa [Value.cells] using ea
  subst e
  exact ⟨n, rfl, bounds_i64 wa⟩
set_option maxRecDepth 100000 in
set_option maxHeartbeats 16000000 in
theorem others_any (K M : List Int) (n : Int) (hn0 : -9223372036854775808 ≤ n) (hn1 : n ≤ 9223372036854775807) (hK : Bytes K) (hM : Bytes M) (lK : K.length = 32) (lM : M.length = 32) (w : World) :
    Calls Try.prog 8 #[.agg (K.map (Value.int .u8)).toArray, .agg (M.map (Value.int .u8)).toArray, .int .i64 n] w fun e w' => e = .returned (.bool true) ∧ Keeps w w' := by
  have HAW := Lib.hid awake_any
  have HSG := Lib.hid (sign_any K M hK hM lK lM)
  have HPU := Lib.hid (public_any K hK lK)
  have l1 := signV_len K M
  have l3 := pubV_len (be K)
  obtain ⟨m1, hm1⟩ : ∃ m1, n.tmod 64 = m1 := ⟨_, rfl⟩
  have hm1a : -64 < m1 := by rw [← hm1]; exact (tmod64 n).1
  have hm1b : m1 < 64 := by rw [← hm1]; exact (tmod64 n).2
  obtain ⟨a, ha, ha64⟩ : ∃ a : Nat, (m1 + 64).tmod 64 = (a : Int) ∧ a < 64 := ⟨((m1 + 64) % 64).toNat, by rw [Int.tmod_eq_emod_of_nonneg (by omega)]; omega, by omega⟩
  obtain ⟨b, hb, hb32⟩ : ∃ b : Nat, (a : Int).tdiv 2 = (b : Int) ∧ b < 32 := ⟨a / 2, by rw [Int.tdiv_eq_ediv_of_nonneg (by omega)]; omega, by omega⟩
  have hsg := signV_bytes K M
  have hx1 := xor_byte (bytes_getD hsg a) (by decide : (0 : Int) ≤ 1) (by decide)
  have hx2 := xor_byte (bytes_getD hM b) (by decide : (0 : Int) ≤ 16) (by decide)
  have hBN := bytes_set hsg a hx1.1 hx1.2
  have hOM := bytes_set hM b hx2.1 hx2.2
  have hga := bytes_getD hsg a; have hgb := bytes_getD hM b
  have V1 := Lib.hid (fun (v v' : Value) W (hv : Rd W 1 v 33 ((pubV (be K)).map (Value.int .u8))) (hv' : Rd W 1 v' 64 (((signV K M).set a (bits .xor .u8 ((signV K M).getD a 0) 1)).map (Value.int .u8))) => verify_any v v' (pubV (be K)) M _ (pubV_bytes _) hM hBN lM W (by rw [l3]; exact hv) (by rw [List.length_set, l1]; exact hv'))
  have V2 := Lib.hid (fun (v v' : Value) W (hv : Rd W 1 v 33 ((pubV (be K)).map (Value.int .u8))) (hv' : Rd W 1 v' 64 (((signV K M).set a (bits .xor .u8 ((signV K M).getD a 0) 1)).map (Value.int .u8))) => rverify_any v v' (pubV (be K)) M _ (pubV_bytes _) hM hBN lM W (by rw [l3]; exact hv) (by rw [List.length_set, l1]; exact hv'))
  have lOM : (M.set b (bits .xor .u8 (M.getD b 0) 16)).length = 32 := by rw [List.length_set, lM]
  have lBN : ((signV K M).set a (bits .xor .u8 ((signV K M).getD a 0) 1)).length = 64 := by rw [List.length_set, l1]
  have V3 := Lib.hid (fun (v v' : Value) W (hv : Rd W 1 v 33 ((pubV (be K)).map (Value.int .u8))) (hv' : Rd W 1 v' 64 ((signV K M).map (Value.int .u8))) => verify_any v v' (pubV (be K)) _ (signV K M) (pubV_bytes _) hOM hsg lOM W (by rw [l3]; exact hv) (by rw [l1]; exact hv'))
  have V4 := Lib.hid (fun (v v' : Value) W (hv : Rd W 1 v 33 ((pubV (be K)).map (Value.int .u8))) (hv' : Rd W 1 v' 64 ((signV K M).map (Value.int .u8))) => rverify_any v v' (pubV (be K)) _ (signV K M) (pubV_bytes _) hOM hsg lOM W (by rw [l3]; exact hv) (by rw [l1]; exact hv'))
  have V5 := Lib.hid (fun (v v' : Value) W (hv : Rd W 1 v 32 (((pubV (be K)).take 32).map (Value.int .u8))) (hv' : Rd W 1 v' 64 ((signV K M).map (Value.int .u8))) => verify_any v v' ((pubV (be K)).take 32) M (signV K M) (b63_bytes (pubV_bytes _) 32) hM hsg lM W (by rw [List.length_take, l3]; exact hv) (by rw [l1]; exact hv'))
  have V6 := Lib.hid (fun (v v' : Value) W (hv : Rd W 1 v 33 ((pubV (be K)).map (Value.int .u8))) (hv' : Rd W 1 v' 63 (((signV K M).take 63).map (Value.int .u8))) => verify_any v v' (pubV (be K)) M ((signV K M).take 63) (pubV_bytes _) hM (b63_bytes hsg 63) lM W (by rw [l3]; exact hv) (by rw [List.length_take, l1]; exact hv'))
  rw [ver_short1 _ _ _ l3] at V5
  rw [ver_short2 _ _ _ l1] at V6
  have hcs : errV (be K) = 1 ∨ errV (be K) = 0 := by unfold errV; split; exact .inr rfl; exact .inl rfl
  have ht1 : ((pubV (be K)).take 32).length = 32 := by rw [List.length_take, l3]; rfl
  have ht2 : ((signV K M).take 63).length = 63 := by rw [List.length_take, l1]; rfl
  have hd1 : ((pubV (be K)).map (Value.int .u8)).take 32 = ((pubV (be K)).take 32).map (Value.int .u8) := by rw [List.map_take]
  have hd2 : ((signV K M).map (Value.int .u8)).take 63 = ((signV K M).take 63).map (Value.int .u8) := by rw [List.map_take]
  generalize hv1 : verV (pubV (be K)) M ((signV K M).set a (bits .xor .u8 ((signV K M).getD a 0) 1)) = vv1 at *
  generalize hv2 : verV (pubV (be K)) (M.set b (bits .xor .u8 (M.getD b 0) 16)) (signV K M) = vv2 at *
  have z1 : (vv1 == vv1) = true := by simp
  have z2 : (vv2 == vv2) = true := by simp
  clear hv1 hv2
  generalize (pubV (be K)).take 32 = PS at *
  generalize (signV K M).take 63 = SS at *
  generalize pubV (be K) = PK at *
  generalize signV K M = SG at *
  generalize errV (be K) = er at *
  generalize hBNe : SG.set a (bits .xor .u8 (SG.getD a 0) 1) = BN at *
  generalize hOMe : M.set b (bits .xor .u8 (M.getD b 0) 16) = OM at *
  have HD1 := Lib.hid hd1; have HD2 := Lib.hid hd2; have HBNE := Lib.hid hBNe; have HOME := Lib.hid hOMe
  have HCS := Lib.hid hcs
  have ha64i : (a : Int) < 64 := by omega
  have hb32i : (b : Int) < 32 := by omega
  clear hcs hd1 hd2 hBNe hOMe hK hM hsg hBN hOM
  go_enter Try.func8, Try.ntmps8
  go_upto_region 1 with (fail)
  refine cu_rows2 (fun W hk hra hrb hs => ?_)
  obtain ⟨p, hp⟩ : ∃ p, p = w.heap.size := ⟨_, rfl⟩
  rw [← hp] at hra hrb hs ⊢
  have hkp : w.heap.size ≤ p := by omega
  have HRA := Lib.hid (show Row W p 0 (K.map (Value.int .u8)) from hra); have HRB := Lib.hid (show Row W (p + 1) 0 (M.map (Value.int .u8)) from hrb); have HKW := Lib.hid hk
  have hpW : p + 1 < W.heap.size := by omega
  clear hp hk hra hrb hs
  go_upto_region 3 with (go_at_call 9; refine (HAW.out _).mono ?_; rintro e W1 ⟨rfl, hk1⟩; have HK1 := Lib.hid hk1; clear hk1)
  have HRA := Lib.hid (HRA.out.keeps HK1.out); have HRB := Lib.hid (HRB.out.keeps HK1.out); have HKW := Lib.hid (HKW.out.trans HK1.out)
  have hpW1 : p + 1 < W1.heap.size := Nat.lt_of_lt_of_le hpW HK1.out.size
  clear HK1
  go_upto_region 4 with (first | (refine wpList_load_at rfl 22 (.tmp 3) rfl _ 0 rfl (K.map (Value.int .u8)) _ HRA.out Try.underlying22 rfl (by rw [List.length_map, lK]; exact sz_b32') ?_) | (refine wpList_load_at rfl 44 (.tmp 4) rfl _ 0 rfl (M.map (Value.int .u8)) _ HRB.out Try.underlying44 rfl (by rw [List.length_map, lM]; exact sz_hash') ?_) | (go_at_call 23; refine (HSG.out _).mono ?_; rintro e' W2 ⟨rfl, hk1⟩; have HK2 := Lib.hid hk1; clear hk1) | (refine wpList_store_row rfl 56 (.tmp 7) (.tmp 19) rfl W2.heap.size 0 rfl (zeroL64.map (Value.int .u8)) (SG.map (Value.int .u8)) rfl (Row.new _ _ _ rfl) (by rw [List.length_map, l1]; rfl) (by rw [List.length_map, l1]; exact sz_b64) (int_oneCell _) ?_; intro W3 hr2 hc2; have HR7 := Lib.hid hr2; have HK3 := Lib.hid (nm_keeps_chg (nm_keeps_alloc HK2.out _) hc2 HK2.out.size); clear hr2 hc2))
  have hpq : p + 1 < W2.heap.size := Nat.lt_of_lt_of_le hpW1 HK2.out.size
  generalize W2.heap.size = q at *
  have HRA := Lib.hid (HRA.out.keeps HK3.out); have HRB := Lib.hid (HRB.out.keeps HK3.out); have HKW := Lib.hid (HKW.out.trans HK3.out)
  have hqW : q < W3.heap.size := HR7.out.lt (map_ne l1)
  clear HK3 HK2
  go_upto_region 5 with (first | (refine wpList_load_at rfl 22 (.tmp 3) rfl _ 0 rfl (K.map (Value.int .u8)) _ HRA.out Try.underlying22 rfl (by rw [List.length_map, lK]; exact sz_b32') ?_) | (go_at_call 10; refine (HPU.out _).mono ?_; rintro e' W4 ⟨rfl, hk1⟩; have HK4 := Lib.hid hk1; clear hk1) | (refine wpList_store_row rfl 25 (.tmp 9) (.tmp 24) rfl W4.heap.size 0 rfl (zeroL33.map (Value.int .u8)) (PK.map (Value.int .u8)) rfl (Row.new _ _ _ rfl) (by rw [List.length_map, l3]; rfl) (by rw [List.length_map, l3]; exact sz_b33) (int_oneCell _) ?_; intro W5 hr2 hc2; have HR9 := Lib.hid hr2; have HK5 := Lib.hid (nm_keeps_chg (nm_keeps_alloc HK4.out _) hc2 HK4.out.size); clear hr2 hc2))
  have hqq2 : q < W4.heap.size := Nat.lt_of_lt_of_le hqW HK4.out.size
  generalize W4.heap.size = q2 at *
  have HR7 := Lib.hid (HR7.out.keeps HK5.out); have HRB := Lib.hid (HRB.out.keeps HK5.out); have HKW := Lib.hid (HKW.out.trans HK5.out)
  have hq2W : q2 < W5.heap.size := HR9.out.lt (map_ne l3)
  clear HK4 HK5 HRA
  rcases HCS.out with rfl | rfl
  · go_wp2
    go_ret
    exact ⟨by first | rfl | exact ret_bool (by simp), HKW.out⟩
  clear HCS
  go_upto_region 9 with (first | (refine wpList_load_at rfl 56 (.tmp 7) rfl _ 0 rfl (SG.map (Value.int .u8)) _ HR7.out Try.underlying56 rfl (by rw [List.length_map, l1]; exact sz_b64) ?_) | (refine wpList_store_row rfl 56 (.tmp 11) (.tmp 32) rfl W5.heap.size 0 rfl (zeroL64.map (Value.int .u8)) (SG.map (Value.int .u8)) rfl (Row.new _ _ _ rfl) (by rw [List.length_map, l1]; rfl) (by rw [List.length_map, l1]; exact sz_b64) (int_oneCell _) ?_; intro W7 hr2 hc2; have HRB2 := Lib.hid hr2; have HK7 := Lib.hid (nm_keeps_chg (nm_keeps_alloc (Keeps.refl W5) _) hc2 (Nat.le_refl _)); clear hr2 hc2))
  have hq2b : q2 < W5.heap.size := hq2W
  generalize hbb : W5.heap.size = bb at *
  have HR7 := Lib.hid (HR7.out.keeps HK7.out); have HR9 := Lib.hid (HR9.out.keeps HK7.out); have HRB := Lib.hid (HRB.out.keeps HK7.out); have HKW := Lib.hid (HKW.out.trans HK7.out)
  have hbW : bb < W7.heap.size := HRB2.out.lt (map_ne l1)
  clear HK7 hbb
  have hwb : w.heap.size ≤ bb := by omega
  have c1 := HRB2.out.int0 a (by rw [l1]; exact ha64)
  have f1 := HRB2.out.free0 a (by simp [l1]; exact ha64)
  have hset := HRB2.out.setInt0 a (by rw [l1]; exact ha64) (bits .xor .u8 (SG.getD a 0) 1)
  rw [HBNE.out] at hset
  have HSET := Lib.hid hset
  clear hset
  generalize SG.getD a 0 = ga at *
  go_upto_region 10 with (fail)
  refine wp_gen (fun W => Keeps w W ∧ Row W bb 0 (BN.map (Value.int .u8)) ∧ Row W q 0 (SG.map (Value.int .u8)) ∧ Row W q2 0 (PK.map (Value.int .u8)) ∧ Row W (p + 1) 0 (M.map (Value.int .u8)) ∧ bb < W.heap.size) ⟨keeps_set HKW.out hwb _, HSET.out, HR7.out.other (show q ≠ bb by omega) _, HR9.out.other (show q2 ≠ bb by omega) _, HRB.out.other (show p + 1 ≠ bb by omega) _, by simpa using hbW⟩ ?_
  clear HSET HKW HR7 HR9 HRB HRB2 hbW c1 f1 HBNE
  rintro W8 ⟨hk, hr1, hr2, hr3, hr4, hbW⟩
  have HKW := Lib.hid hk; have HRN := Lib.hid hr1; have HR7 := Lib.hid hr2; have HR9 := Lib.hid hr3; have HRB := Lib.hid hr4
  clear hk hr1 hr2 hr3 hr4
  go_upto_region 11 with (first | (refine wpList_load_at rfl 44 (.tmp 4) rfl _ 0 rfl (M.map (Value.int .u8)) _ HRB.out Try.underlying44 rfl (by rw [List.length_map, lM]; exact sz_hash') ?_) | (refine wpList_store_row rfl 44 (.tmp 12) (.tmp 38) rfl W8.heap.size 0 rfl (zeroL32.map (Value.int .u8)) (M.map (Value.int .u8)) rfl (Row.new _ _ _ rfl) (by rw [List.length_map, lM]; rfl) (by rw [List.length_map, lM]; exact sz_hash') (int_oneCell _) ?_; intro W9 hr2 hc2; have HRO := Lib.hid hr2; have HK9 := Lib.hid (nm_keeps_chg (nm_keeps_alloc (Keeps.refl W8) _) hc2 (Nat.le_refl _)); clear hr2 hc2))
  have hbo : bb < W8.heap.size := hbW
  generalize hoo : W8.heap.size = oo at *
  have HR7 := Lib.hid (HR7.out.keeps HK9.out); have HR9 := Lib.hid (HR9.out.keeps HK9.out); have HRB := Lib.hid (HRB.out.keeps HK9.out); have HRN := Lib.hid (HRN.out.keeps HK9.out); have HKW := Lib.hid (HKW.out.trans HK9.out)
  have hoW : oo < W9.heap.size := HRO.out.lt (map_ne lM)
  clear HK9 hoo
  have c1 := HRO.out.int0 b (by rw [lM]; exact hb32)
  have f1 := HRO.out.free0 b (by simp [lM]; exact hb32)
  have hset := HRO.out.setInt0 b (by rw [lM]; exact hb32) (bits .xor .u8 (M.getD b 0) 16)
  rw [HOME.out] at hset
  have HSET := Lib.hid hset
  clear hset
  generalize M.getD b 0 = gb at *
  go_upto_region 12 with (fail)
  refine wp_gen (fun W => Keeps w W ∧ Row W bb 0 (BN.map (Value.int .u8)) ∧ Row W q 0 (SG.map (Value.int .u8)) ∧ Row W q2 0 (PK.map (Value.int .u8)) ∧ Row W (p + 1) 0 (M.map (Value.int .u8)) ∧ Row W oo 0 (OM.map (Value.int .u8)) ∧ oo < W.heap.size) ⟨keeps_set HKW.out (by omega) _, HRN.out.other (show bb ≠ oo by omega) _, HR7.out.other (show q ≠ oo by omega) _, HR9.out.other (show q2 ≠ oo by omega) _, HRB.out.other (show p + 1 ≠ oo by omega) _, HSET.out, by simpa using hoW⟩ ?_
  clear HSET HKW HR7 HR9 HRB HRO HRN hoW c1 f1 HOME hbW
  rintro W10 ⟨hk, hr1, hr2, hr3, hr4, hr5, hoW⟩
  have HKW := Lib.hid hk; have HRN := Lib.hid hr1; have HR7 := Lib.hid hr2; have HR9 := Lib.hid hr3; have HRB := Lib.hid hr4; have HRO := Lib.hid hr5
  clear hk hr1 hr2 hr3 hr4 hr5
  have R33 := Lib.hid (show Rd W10 1 (.slice (some ⟨q2, 0, none⟩) 33 33) 33 (PK.map (Value.int .u8)) from Rd.of_row HR9.out (by simp [l3]) (by omega) (Nat.le_refl _) (by unfold maxLen; omega))
  have R32 := Lib.hid (show Rd W10 1 (.slice (some ⟨q2, 0, none⟩) 32 33) 32 (PS.map (Value.int .u8)) from Rd.of_row (by rw [← HD1.out]; exact HR9.out.take 32) (by simp [ht1]) (by omega) (by omega) (by unfold maxLen; omega))
  have R64 := Lib.hid (show Rd W10 1 (.slice (some ⟨q, 0, none⟩) 64 64) 64 (SG.map (Value.int .u8)) from Rd.of_row HR7.out (by simp [l1]) (by omega) (Nat.le_refl _) (by unfold maxLen; omega))
  have R63 := Lib.hid (show Rd W10 1 (.slice (some ⟨q, 0, none⟩) 63 64) 63 (SS.map (Value.int .u8)) from Rd.of_row (by rw [← HD2.out]; exact HR7.out.take 63) (by simp [ht2]) (by omega) (by omega) (by unfold maxLen; omega))
  have RBN := Lib.hid (show Rd W10 1 (.slice (some ⟨bb, 0, none⟩) 64 64) 64 (BN.map (Value.int .u8)) from Rd.of_row HRN.out (by simp [lBN]) (by omega) (Nat.le_refl _) (by unfold maxLen; omega))
  refine wp_region_keep 34 [] [0, 1, 2, 3, 4, 5, 6, 7, 8, 9, 10, 11, 12, 13, 14, 15, 16, 17, 18, 19, 20, 21, 22, 23, 24, 25, 26, 27, 28, 29, 30, 31, 32, 33] (fun _ => []) (by kernel_rfl) (by kernel_rfl) (by intro i hi; cases hi) ?_
  refine keep_pure (o := ?_) (v := ?_) ?_ ?_ ?_ ?_
  rotate_left 2
  focus (simp only [kG]; exact rfl)
  focus rfl
  focus ((intro wS hS; go_simp) <;> with_reducible rfl)
  try simp only [kP]
  refine keep_pure (o := ?_) (v := ?_) ?_ ?_ ?_ ?_
  rotate_left 2
  focus (simp only [kG]; exact rfl)
  focus rfl
  focus (intro wS hS; (refine cu_run_load 44 (.tmp 4) ?_ (p + 1) 0 ?_ (M.map (Value.int .u8)) _ (HRB.out.keeps hS) Try.underlying44 rfl (by rw [List.length_map, lM]; exact sz_hash')) <;> rfl)
  try simp only [kP]
  refine keep_pure (o := ?_) (v := ?_) ?_ ?_ ?_ ?_
  rotate_left 2
  focus (simp only [kG]; exact rfl)
  focus rfl
  focus ((intro wS hS; go_simp) <;> with_reducible rfl)
  try simp only [kP]
  refine keep_call (o := ?_) (f := ?_) (args := ?_) (v := ?_) ?_ ?_ ?_ ?_ ?_
  rotate_left 4
  focus (simp only [kG]; exact rfl)
  focus rfl
  focus (intro wS; go_simp; refine ⟨?_, ?_⟩ <;> with_reducible rfl)
  focus (intro wS hS; exact V1.out _ _ wS (R33.out.keeps hS) (RBN.out.keeps hS))
  try simp only [kP]
  refine keep_pure (o := ?_) (v := ?_) ?_ ?_ ?_ ?_
  rotate_left 2
  focus (simp only [kG]; exact rfl)
  focus rfl
  focus ((intro wS hS; go_simp) <;> with_reducible rfl)
  try simp only [kP]
  refine keep_pure (o := ?_) (v := ?_) ?_ ?_ ?_ ?_
  rotate_left 2
  focus (simp only [kG]; exact rfl)
  focus rfl
  focus (intro wS hS; (refine cu_run_load 44 (.tmp 4) ?_ (p + 1) 0 ?_ (M.map (Value.int .u8)) _ (HRB.out.keeps hS) Try.underlying44 rfl (by rw [List.length_map, lM]; exact sz_hash')) <;> rfl)
  try simp only [kP]
  refine keep_pure (o := ?_) (v := ?_) ?_ ?_ ?_ ?_
  rotate_left 2
  focus (simp only [kG]; exact rfl)
  focus rfl
  focus ((intro wS hS; go_simp) <;> with_reducible rfl)
  try simp only [kP]
  refine keep_call (o := ?_) (f := ?_) (args := ?_) (v := ?_) ?_ ?_ ?_ ?_ ?_
  rotate_left 4
  focus (simp only [kG]; exact rfl)
  focus rfl
  focus (intro wS; go_simp; refine ⟨?_, ?_⟩ <;> with_reducible rfl)
  focus (intro wS hS; exact V2.out _ _ wS (R33.out.keeps hS) (RBN.out.keeps hS))
  try simp only [kP]
  refine keep_pure (o := ?_) (v := ?_) ?_ ?_ ?_ ?_
  rotate_left 2
  focus (simp only [kG]; exact rfl)
  focus rfl
  focus ((intro wS hS; go_simp) <;> with_reducible rfl)
  try simp only [kP]
  refine keep_pure (o := ?_) (v := ?_) ?_ ?_ ?_ ?_
  rotate_left 2
  focus (simp only [kG]; exact rfl)
  focus rfl
  focus ((intro wS hS; go_simp) <;> with_reducible rfl)
  try simp only [kP]
  refine keep_pure (o := ?_) (v := ?_) ?_ ?_ ?_ ?_
  rotate_left 2
  focus (simp only [kG]; exact rfl)
  focus rfl
  focus ((intro wS hS; go_simp) <;> with_reducible rfl)
  try simp only [kP]
  refine keep_pure (o := ?_) (v := ?_) ?_ ?_ ?_ ?_
  rotate_left 2
  focus (simp only [kG]; exact rfl)
  focus rfl
  focus (intro wS hS; (refine cu_run_load 44 (.tmp 12) ?_ oo 0 ?_ (OM.map (Value.int .u8)) _ (HRO.out.keeps hS) Try.underlying44 rfl (by rw [List.length_map, lOM]; exact sz_hash')) <;> rfl)
  try simp only [kP]
  refine keep_pure (o := ?_) (v := ?_) ?_ ?_ ?_ ?_
  rotate_left 2
  focus (simp only [kG]; exact rfl)
  focus rfl
  focus ((intro wS hS; go_simp) <;> with_reducible rfl)
  try simp only [kP]
  refine keep_call (o := ?_) (f := ?_) (args := ?_) (v := ?_) ?_ ?_ ?_ ?_ ?_
  rotate_left 4
  focus (simp only [kG]; exact rfl)
  focus rfl
  focus (intro wS; go_simp; refine ⟨?_, ?_⟩ <;> with_reducible rfl)
  focus (intro wS hS; exact V3.out _ _ wS (R33.out.keeps hS) (R64.out.keeps hS))
  try simp only [kP]
  refine keep_pure (o := ?_) (v := ?_) ?_ ?_ ?_ ?_
  rotate_left 2
  focus (simp only [kG]; exact rfl)
  focus rfl
  focus ((intro wS hS; go_simp) <;> with_reducible rfl)
  try simp only [kP]
  refine keep_pure (o := ?_) (v := ?_) ?_ ?_ ?_ ?_
  rotate_left 2
  focus (simp only [kG]; exact rfl)
  focus rfl
  focus (intro wS hS; (refine cu_run_load 44 (.tmp 12) ?_ oo 0 ?_ (OM.map (Value.int .u8)) _ (HRO.out.keeps hS) Try.underlying44 rfl (by rw [List.length_map, lOM]; exact sz_hash')) <;> rfl)
  try simp only [kP]
  refine keep_pure (o := ?_) (v := ?_) ?_ ?_ ?_ ?_
  rotate_left 2
  focus (simp only [kG]; exact rfl)
  focus rfl
  focus ((intro wS hS; go_simp) <;> with_reducible rfl)
  try simp only [kP]
  refine keep_call (o := ?_) (f := ?_) (args := ?_) (v := ?_) ?_ ?_ ?_ ?_ ?_
  rotate_left 4
  focus (simp only [kG]; exact rfl)
  focus rfl
  focus (intro wS; go_simp; refine ⟨?_, ?_⟩ <;> with_reducible rfl)
  focus (intro wS hS; exact V4.out _ _ wS (R33.out.keeps hS) (R64.out.keeps hS))
  try simp only [kP]
  refine keep_pure (o := ?_) (v := ?_) ?_ ?_ ?_ ?_
  rotate_left 2
  focus (simp only [kG]; exact rfl)
  focus rfl
  focus ((intro wS hS; go_simp) <;> with_reducible rfl)
  try simp only [kP]
  refine keep_pure (o := ?_) (v := ?_) ?_ ?_ ?_ ?_
  rotate_left 2
  focus (simp only [kG]; exact rfl)
  focus rfl
  focus ((intro wS hS; go_simp) <;> with_reducible rfl)
  try simp only [kP]
  refine keep_pure (o := ?_) (v := ?_) ?_ ?_ ?_ ?_
  rotate_left 2
  focus (simp only [kG]; exact rfl)
  focus rfl
  focus ((intro wS hS; go_simp) <;> with_reducible rfl)
  try simp only [kP]
  refine keep_pure (o := ?_) (v := ?_) ?_ ?_ ?_ ?_
  rotate_left 2
  focus (simp only [kG]; exact rfl)
  focus rfl
  focus ((intro wS hS; go_simp) <;> with_reducible rfl)
  try simp only [kP]
  refine keep_pure (o := ?_) (v := ?_) ?_ ?_ ?_ ?_
  rotate_left 2
  focus (simp only [kG]; exact rfl)
  focus rfl
  focus (intro wS hS; (refine cu_run_load 44 (.tmp 4) ?_ (p + 1) 0 ?_ (M.map (Value.int .u8)) _ (HRB.out.keeps hS) Try.underlying44 rfl (by rw [List.length_map, lM]; exact sz_hash')) <;> rfl)
  try simp only [kP]
  refine keep_pure (o := ?_) (v := ?_) ?_ ?_ ?_ ?_
  rotate_left 2
  focus (simp only [kG]; exact rfl)
  focus rfl
  focus ((intro wS hS; go_simp) <;> with_reducible rfl)
  try simp only [kP]
  refine keep_call (o := ?_) (f := ?_) (args := ?_) (v := ?_) ?_ ?_ ?_ ?_ ?_
  rotate_left 4
  focus (simp only [kG]; exact rfl)
  focus rfl
  focus (intro wS; go_simp; refine ⟨?_, ?_⟩ <;> with_reducible rfl)
  focus (intro wS hS; exact V5.out _ _ wS (R32.out.keeps hS) (R64.out.keeps hS))
  try simp only [kP]
  refine keep_pure (o := ?_) (v := ?_) ?_ ?_ ?_ ?_
  rotate_left 2
  focus (simp only [kG]; exact rfl)
  focus rfl
  focus ((intro wS hS; go_simp) <;> with_reducible rfl)
  try simp only [kP]
  refine keep_pure (o := ?_) (v := ?_) ?_ ?_ ?_ ?_
  rotate_left 2
  focus (simp only [kG]; exact rfl)
  focus rfl
  focus ((intro wS hS; go_simp) <;> with_reducible rfl)
  try simp only [kP]
  refine keep_pure (o := ?_) (v := ?_) ?_ ?_ ?_ ?_
  rotate_left 2
  focus (simp only [kG]; exact rfl)
  focus rfl
  focus ((intro wS hS; go_simp) <;> with_reducible rfl)
  try simp only [kP]
  refine keep_pure (o := ?_) (v := ?_) ?_ ?_ ?_ ?_
  rotate_left 2
  focus (simp only [kG]; exact rfl)
  focus rfl
  focus ((intro wS hS; go_simp) <;> with_reducible rfl)
  try simp only [kP]
  refine keep_pure (o := ?_) (v := ?_) ?_ ?_ ?_ ?_
  rotate_left 2
  focus (simp only [kG]; exact rfl)
  focus rfl
  focus (intro wS hS; (refine cu_run_load 44 (.tmp 4) ?_ (p + 1) 0 ?_ (M.map (Value.int .u8)) _ (HRB.out.keeps hS) Try.underlying44 rfl (by rw [List.length_map, lM]; exact sz_hash')) <;> rfl)
  try simp only [kP]
  refine keep_pure (o := ?_) (v := ?_) ?_ ?_ ?_ ?_
  rotate_left 2
  focus (simp only [kG]; exact rfl)
  focus rfl
  focus ((intro wS hS; go_simp) <;> with_reducible rfl)
  try simp only [kP]
  refine keep_call (o := ?_) (f := ?_) (args := ?_) (v := ?_) ?_ ?_ ?_ ?_ ?_
  rotate_left 4
  focus (simp only [kG]; exact rfl)
  focus rfl
  focus (intro wS; go_simp; refine ⟨?_, ?_⟩ <;> with_reducible rfl)
  focus (intro wS hS; exact V6.out _ _ wS (R33.out.keeps hS) (R63.out.keeps hS))
  try simp only [kP]
  refine keep_pure (o := ?_) (v := ?_) ?_ ?_ ?_ ?_
  rotate_left 2
  focus (simp only [kG]; exact rfl)
  focus rfl
  focus ((intro wS hS; go_simp) <;> with_reducible rfl)
  try simp only [kP]
  refine keep_pure (o := ?_) (v := ?_) ?_ ?_ ?_ ?_
  rotate_left 2
  focus (simp only [kG]; exact rfl)
  focus rfl
  focus ((intro wS hS; go_simp) <;> with_reducible rfl)
  try simp only [kP]
  refine keep_nil ?_
  intro GG V9 hk1 hG
  clear hG
  simp only [putsA, dstAt, Act.put, ptrV, List.drop_succ_cons, List.drop_zero, List.getElem?_toArray, List.getElem?_cons_succ, List.getElem?_cons_zero, Option.bind_some, List.setIfInBounds_toArray, List.set_cons_zero, List.set_cons_succ]
  have HKW := Lib.hid (HKW.out.trans hk1)
  clear hk1
  go_wp2
  go_ret
  exact ⟨by first | rfl | exact ret_bool (by simp), HKW.out⟩
end Go.Proofs.Ytajipagpdphejaa
