/- hdkey's keys: which are private, their secret, whether they are any. No condition. -/
import Derived.Test.YthfepfpmkckdnaaDoorCuKey
import Derived.Laws.CopyOwn
import Derived.Laws.Cover3
namespace Go.Proofs.YthfepfpmkckdnaaDoor
set_option linter.unusedVariables false
set_option linter.unusedSimpArgs false
open Go Go.RowKit

/-- a key's cells -/
def keyCells (d : Int) (fg : List Int) (ch : Int) (cc da : List Int) : List Value := .int .u8 d :: (fg.map (Value.int .u8) ++ (.int .u32 ch :: (cc.map (Value.int .u8) ++ da.map (Value.int .u8))))
theorem keyCells_length {d : Int} {fg : List Int} {ch : Int} {cc da : List Int} (h1 : fg.length = 4) (h2 : cc.length = 32) (h3 : da.length = 33) : (keyCells d fg ch cc da).length = 71 := by simp [keyCells, h1, h2, h3]
theorem keyCells_one (d : Int) (fg : List Int) (ch : Int) (cc da : List Int) : ∀ v ∈ keyCells d fg ch cc da, v.oneCell' = true := by
  intro v hv
  simp only [keyCells, List.mem_cons, List.mem_append, List.mem_map] at hv
  rcases hv with rfl | ⟨x, _, rfl⟩ | rfl | ⟨x, _, rfl⟩ | ⟨x, _, rfl⟩ <;> rfl
/-- its data, its chain -/
theorem keyCells_data (d : Int) {fg : List Int} (ch : Int) {cc : List Int} (da : List Int) (h1 : fg.length = 4) (h2 : cc.length = 32) : (keyCells d fg ch cc da).drop 38 = da.map (Value.int .u8) := by
  have e : keyCells d fg ch cc da = (.int .u8 d :: (fg.map (Value.int .u8) ++ (.int .u32 ch :: cc.map (Value.int .u8)))) ++ da.map (Value.int .u8) := by simp [keyCells]
  rw [e, List.drop_left' (by simp [h1, h2])]
theorem keyCells_setC (d : Int) {fg : List Int} (ch : Int) (cc da : List Int) (h1 : fg.length = 4) (i : Nat) (x : Int) (hi : i < cc.length) : (keyCells d fg ch cc da).set (6 + i) (.int .u8 x) = keyCells d fg ch (cc.set i x) da := by
  have e : ∀ cc : List Int, keyCells d fg ch cc da = (.int .u8 d :: (fg.map (Value.int .u8) ++ [.int .u32 ch])) ++ (cc.map (Value.int .u8) ++ da.map (Value.int .u8)) := fun cc => by simp [keyCells]
  rw [e, e, List.set_append_right _ _ (by simp [h1]), show 6 + i - (.int .u8 d :: (fg.map (Value.int .u8) ++ [Value.int .u32 ch])).length = i by simp [h1], List.set_append_left _ _ (by simpa using hi), List.map_set]
theorem keyCells_setD (d : Int) {fg : List Int} (ch : Int) {cc : List Int} (da : List Int) (h1 : fg.length = 4) (h2 : cc.length = 32) (i : Nat) (x : Int) : (keyCells d fg ch cc da).set (38 + i) (.int .u8 x) = keyCells d fg ch cc (da.set i x) := by
  have e : ∀ da : List Int, keyCells d fg ch cc da = (.int .u8 d :: (fg.map (Value.int .u8) ++ (.int .u32 ch :: cc.map (Value.int .u8)))) ++ da.map (Value.int .u8) := fun da => by simp [keyCells]
  rw [e, e, List.set_append_right _ _ (by simp [h1, h2]), show 38 + i - (.int .u8 d :: (fg.map (Value.int .u8) ++ (.int .u32 ch :: cc.map (Value.int .u8)))).length = i by simp [h1, h2], List.map_set]
theorem key_data {w : World} {p : Nat} {d : Int} {fg : List Int} {ch : Int} {cc da : List Int} (h : Row w p 0 (keyCells d fg ch cc da)) (h1 : fg.length = 4) (h2 : cc.length = 32) : Row w p 38 (da.map (Value.int .u8)) := by
  have := h.drop 38
  rwa [keyCells_data d ch da h1 h2, Nat.zero_add] at this
theorem sz_hkey {d : Int} {fg : List Int} {ch : Int} {cc da : List Int} (h1 : fg.length = 4) (h2 : cc.length = 32) (h3 : da.length = 33) : (Tryd.prog.info? 31).map (·.size) = some (keyCells d fg ch cc da).length := by rw [keyCells_length h1 h2 h3]; kernel_rfl
theorem sz_rkey {d : Int} {fg : List Int} {ch : Int} {cc da : List Int} (h1 : fg.length = 4) (h2 : cc.length = 32) (h3 : da.length = 33) : (Tryd.prog.info? 35).map (·.size) = some (keyCells d fg ch cc da).length := by rw [keyCells_length h1 h2 h3]; kernel_rfl
variable {d : Int} {fg : List Int} {ch : Int} {cc z : List Int}
set_option maxRecDepth 100000 in
theorem private_any (h1 : fg.length = 4) (h2 : cc.length = 32) (w : World) : Calls Tryd.prog 15 #[.agg (keyCells d fg ch cc (0 :: z)).toArray] w fun e w' => e = .returned (.bool true) ∧ Keeps w w' := by
  have HD := Lib.hid (fun (W : World) (p : Nat) (hr : Row W p 0 (keyCells d fg ch cc (0 :: z))) => (key_data hr h1 h2 0 (.int .u8 0) rfl).1)
  generalize keyCells d fg ch cc (0 :: z) = X at *
  go_enter Tryd.func15, Tryd.ntmps15
  go_upto_region 1 with (fail)
  refine cu_rows1 (fun W hk hr hs => ?_)
  have c38 := HD.out _ _ (show Row W w.heap.size 0 X from by simpa using hr)
  have HK := Lib.hid hk
  clear hk hr hs
  go_wp2
  go_ret
  exact ⟨by first | rfl | exact ret_bool (by simp), HK.out⟩
set_option maxRecDepth 100000 in
set_option maxHeartbeats 1000000 in
theorem secret_any (h1 : fg.length = 4) (h2 : cc.length = 32) (hz : z.length = 32) (w : World) : Calls Tryd.prog 29 #[.agg (keyCells d fg ch cc (0 :: z)).toArray] w fun e w' => e = .returned (.agg (z.map (Value.int .u8)).toArray) ∧ Keeps w w' := by
  have HD := Lib.hid (fun (W : World) (p : Nat) (hr : Row W p 0 (keyCells d fg ch cc (0 :: z))) => (by have := (key_data hr h1 h2).drop 1; simpa using this : Row W p 39 (z.map (Value.int .u8))))
  generalize keyCells d fg ch cc (0 :: z) = X at *
  have hsp := fun W => run_arrayAt (P := Tryd.prog) (w := W) 28 5 32 (some ⟨w.heap.size, 39, none⟩) 32 32 Tryd.underlying28 (Nat.le_refl _)
  go_enter Tryd.func29, Tryd.ntmps29
  go_upto_region 1 with (fail)
  refine cu_rows2 (fun W hk hr hr2 hs => ?_)
  have HR := Lib.hid (HD.out _ _ (show Row W w.heap.size 0 X from by simpa using hr))
  obtain ⟨Z, hZ, hrz⟩ : ∃ Z : List Value, Z.length = 32 ∧ Row W (w.heap.size + 1) 0 Z := ⟨_, rfl, hr2⟩
  have HRZ := Lib.hid hrz; have HK := Lib.hid hk
  clear hk hr hr2 hrz
  go_wp2_with (first | (refine wpList_load_at rfl 28 (.tmp 5) rfl w.heap.size 39 rfl _ _ HR.out Tryd.underlying28 rfl (by rw [List.length_map, hz]; exact sz_b32') ?_) | (refine wpList_store_row rfl 28 (.tmp 2) (.tmp 6) rfl (w.heap.size + 1) 0 rfl Z (z.map (Value.int .u8)) rfl HRZ.out (by rw [List.length_map, hz, hZ]) (by rw [List.length_map, hz]; exact sz_b32') (int_oneCell _) ?_; intro w9 hr9 hc9; have H9 := Lib.hid hr9; have HC9 := Lib.hid hc9; clear hr9 hc9))
  exact bodyPost_ret (v := .agg (z.map (Value.int .u8)).toArray) (results_cell_at (p := 2) (ty := 28) rfl _ _ (w.heap.size + 1) 0 _ _ rfl H9.out Tryd.underlying28 rfl (by rw [List.length_map, hz]; exact sz_b32')) rfl ⟨rfl, nm_keeps_chg HK.out HC9.out (by omega)⟩
set_option maxRecDepth 100000 in
set_option maxHeartbeats 1000000 in
theorem good_any (h1 : fg.length = 4) (h2 : cc.length = 32) (hz : z.length = 32) (hb : Bytes z) (w : World) : Calls Tryd.prog 17 #[.agg (keyCells d fg ch cc (0 :: z)).toArray] w fun e w' => e = .returned (.bool (keyB (be z))) ∧ Keeps w w' := by
  have HP := Lib.hid (fun W => private_any (d := d) (ch := ch) (z := z) h1 h2 W)
  have HS := Lib.hid (fun W => secret_any (d := d) (ch := ch) h1 h2 hz W)
  have HV := Lib.hid (fun W => valid_any z hb hz W)
  have ZK := Lib.hid (sz_hkey (d := d) (ch := ch) (da := 0 :: z) h1 h2 (by simp [hz]))
  generalize keyCells d fg ch cc (0 :: z) = X at *
  generalize keyB (be z) = KB at *
  go_enter Tryd.func17, Tryd.ntmps17
  go_upto_region 1 with (fail)
  refine cu_rows1 (fun W hk hr hs => ?_)
  have HR := Lib.hid (show Row W w.heap.size 0 X from by simpa using hr); have HK := Lib.hid hk
  clear hk hr hs
  go_wp2_with (first | (refine wpList_load_at rfl 31 (.tmp 1) rfl w.heap.size 0 rfl _ _ (by first | exact HR.out | exact HR.out.keeps HK1.out) Tryd.underlying31 rfl ZK.out ?_) | (go_at_call 15; refine (HP.out _).mono ?_; rintro e W1 ⟨rfl, hk1⟩; have HK1 := Lib.hid hk1; clear hk1) | (go_at_call 29; refine (HS.out _).mono ?_; rintro e W2 ⟨rfl, hk2⟩; have HK2 := Lib.hid hk2; clear hk2) | (go_at_call 28; refine (HV.out _).mono ?_; rintro e W3 ⟨rfl, hk3⟩; have HK3 := Lib.hid hk3; clear hk3))
  go_ret
  exact ⟨rfl, ((HK.out.trans HK1.out).trans HK2.out).trans HK3.out⟩
/-- the first i of a list, then noughts -/
def uptoZ (l : List Int) (i : Nat) : List Int := l.take i ++ List.replicate (32 - i) 0
theorem uptoZ_zero (l : List Int) : uptoZ l 0 = List.replicate 32 0 := by simp [uptoZ]
theorem uptoZ_full {l : List Int} (h : l.length = 32) : uptoZ l 32 = l := by simp [uptoZ, ← h]
theorem uptoZ_length {l : List Int} {i : Nat} (h : l.length = 32) (hi : i ≤ 32) : (uptoZ l i).length = 32 := by simp [uptoZ, h]; omega
theorem uptoZ_set {l : List Int} {i : Nat} (h : l.length = 32) (hi : i < 32) : (uptoZ l i).set i (l.getD i 0) = uptoZ l (i + 1) := by
  have hl : i < l.length := by omega
  unfold uptoZ
  have e : i - (l.take i).length = 0 := by simp; omega
  rw [List.set_append_right _ _ (by simp; omega), e, show 32 - i = (32 - (i + 1)) + 1 by omega, List.replicate_succ, List.set_cons_zero, List.take_succ_eq_append_getElem hl, List.append_assoc]
  simp [List.getD, hl]
set_option maxRecDepth 100000 in
set_option maxHeartbeats 1000000 in
theorem rsecret_any (h1 : fg.length = 4) (h2 : cc.length = 32) (hz : z.length = 32) (w : World) : Calls Tryd.prog 32 #[.agg (keyCells d fg ch cc (0 :: z)).toArray] w fun e w' => e = .returned (.agg (z.map (Value.int .u8)).toArray) ∧ Keeps w w' := by
  have HD := Lib.hid (fun (W : World) (p : Nat) (hr : Row W p 0 (keyCells d fg ch cc (0 :: z))) => (by have := (key_data hr h1 h2).drop 1; simpa using this : Row W p 39 (z.map (Value.int .u8))))
  generalize keyCells d fg ch cc (0 :: z) = X at *
  go_enter Tryd.func32, Tryd.ntmps32
  go_upto_region 2 with (fail)
  refine wp_rows3 (fun W hk hr hr2 hr3 hs => ?_)
  obtain ⟨p, hp⟩ : ∃ p, p = w.heap.size := ⟨_, rfl⟩
  rw [← hp] at hr hr2 hr3 hs ⊢
  have hkp : w.heap.size ≤ p := by omega
  have HR := Lib.hid (HD.out _ _ (show Row W p 0 X from by simpa using hr))
  obtain ⟨Z, hZ, hrz⟩ : ∃ Z : List Value, Z.length = 32 ∧ Row W (p + 1) 0 Z := ⟨_, rfl, hr2⟩
  have HRZ := Lib.hid hrz; have HK := Lib.hid hk
  have HR3 := Lib.hid (show Row W (p + 1 + 1) 0 ((uptoZ z 0).map (Value.int .u8)) by rw [uptoZ_zero]; exact hr3)
  clear hk hr hr2 hr3 hrz hp hs
  go_wp2
  go_loopw [4] (fun c wr => ∃ i : Nat, i ≤ 32 ∧ c = .int .i64 i ∧ Hid (Keeps w wr) ∧ Hid (Row wr p 39 (z.map (Value.int .u8))) ∧ Hid (Row wr (p + 1) 0 Z) ∧ Hid (Row wr (p + 1 + 1) 0 ((uptoZ z i).map (Value.int .u8)))) (fun c _ => (32 - intOf c).toNat)
  case atStart => exact ⟨0, by omega, rfl, HK, HR, HRZ, HR3⟩
  case round =>
    obtain ⟨i, hi, rfl, HKR, HA, HB, HC⟩ := hrel
    by_cases hlt : i < 32
    · have c1 := HA.out.int i (by rw [hz]; exact hlt)
      have c1' : wr.cell? ⟨p, 38 + (i + 1), none⟩ = some (.int .u8 (z.getD i 0)) := by rw [show 38 + (i + 1) = 39 + i by omega]; exact c1
      have c3 := HC.out.int0 i (by rw [uptoZ_length hz hi]; exact hlt)
      have f3 := HC.out.free0 i (by rw [List.length_map, uptoZ_length hz hi]; exact hlt)
      have hs := HC.out.setInt0 i (by rw [uptoZ_length hz hi]; exact hlt) (z.getD i 0)
      rw [uptoZ_set hz hlt] at hs
      have HS := Lib.hid hs
      clear hs
      generalize z.getD i 0 = y at *
      go_wp2
      go_roundw
      case rel => exact ⟨i + 1, by omega, by go_num, Lib.hid (keeps_set HKR.out (by omega) _), Lib.hid (HA.out.other (by simp; omega) _), Lib.hid (HB.out.other (by simp) _), HS⟩
      case measure => simp [intOf]; omega
    · obtain rfl : i = 32 := by omega
      rw [uptoZ_full hz] at HC
      go_wp2_with (first | (refine wpList_load_at rfl 28 (.tmp 3) rfl (p + 1 + 1) 0 rfl _ _ HC.out Tryd.underlying28 rfl (by rw [List.length_map, hz]; exact sz_b32') ?_) | (refine wpList_store_row rfl 28 (.tmp 2) (.tmp 16) rfl (p + 1) 0 rfl Z (z.map (Value.int .u8)) rfl HB.out (by rw [List.length_map, hz, hZ]) (by rw [List.length_map, hz]; exact sz_b32') (int_oneCell _) ?_; intro w9 hr9 hc9; have H9 := Lib.hid hr9; have HC9 := Lib.hid hc9; clear hr9 hc9))
      exact bodyPost_ret (v := .agg (z.map (Value.int .u8)).toArray) (results_cell_at (p := 2) (ty := 28) rfl _ _ (p + 1) 0 _ _ rfl H9.out Tryd.underlying28 rfl (by rw [List.length_map, hz]; exact sz_b32')) rfl ⟨rfl, nm_keeps_chg HKR.out HC9.out (by omega)⟩
set_option maxRecDepth 100000 in
set_option maxHeartbeats 1000000 in
theorem rgood_any (h1 : fg.length = 4) (h2 : cc.length = 32) (hz : z.length = 32) (hb : Bytes z) (w : World) : Calls Tryd.prog 19 #[.agg (keyCells d fg ch cc (0 :: z)).toArray] w fun e w' => e = .returned (.bool (keyB (be z))) ∧ Keeps w w' := by
  have HD := Lib.hid (fun (W : World) (p : Nat) (hr : Row W p 0 (keyCells d fg ch cc (0 :: z))) => (key_data hr h1 h2 0 (.int .u8 0) rfl).1)
  have HS := Lib.hid (fun W => rsecret_any (d := d) (ch := ch) h1 h2 hz W)
  have HO := Lib.hid (fun (v : Value) W hr => rof_any v z W hr hb hz)
  have HKY := Lib.hid (fun W => rkey_any (be z) (be_u256 hb hz) W)
  have ZK := Lib.hid (sz_rkey (d := d) (ch := ch) (da := 0 :: z) h1 h2 (by simp [hz]))
  generalize keyCells d fg ch cc (0 :: z) = X at *
  generalize keyB (be z) = KB at *
  generalize words8 (be z) = Y at *
  go_enter Tryd.func19, Tryd.ntmps19
  go_upto_region 1 with (fail)
  refine cu_rows1 (fun W hk hr hs => ?_)
  have hr : Row W w.heap.size 0 X := by simpa using hr
  have c38 := HD.out _ _ hr
  have HR := Lib.hid hr; have HK := Lib.hid hk
  clear hk hr hs
  go_upto_region 3 with (first | (refine wpList_load_at rfl 35 (.tmp 1) rfl w.heap.size 0 rfl _ _ HR.out Tryd.underlying35 rfl ZK.out ?_) | (go_at_call 32; refine (HS.out _).mono ?_; rintro e W2 ⟨rfl, hk2⟩; have HK2 := Lib.hid hk2; clear hk2) | (refine wpList_store_row rfl 28 (.tmp 3) (.tmp 11) rfl W2.heap.size 0 rfl (List.replicate 32 (Value.int .u8 0)) (z.map (Value.int .u8)) rfl (Row.new _ _ _ rfl) (by rw [List.length_map, hz]; rfl) (by rw [List.length_map, hz]; exact sz_b32') (int_oneCell _) ?_; intro W3 hr3 hc3; have HR3 := Lib.hid hr3; have HK3 := Lib.hid (nm_keeps_chg (nm_keeps_alloc (Keeps.refl W2) _) hc3 (Nat.le_refl _)); clear hr3 hc3))
  have HRD := Lib.hid (show Rd W3 1 (.slice (some ⟨W2.heap.size, 0, none⟩) 32 32) 32 (z.map (Value.int .u8)) from Rd.of_row HR3.out (by simp [hz]) (HR3.out.lt (by intro e; have := congrArg List.length e; simp [hz] at this)) (Nat.le_refl _) (by unfold maxLen; omega))
  clear c38
  generalize W2.heap.size = q at *
  go_wp2_with (first | (go_at_call 34; refine (HO.out _ _ HRD.out).mono ?_; rintro e W4 ⟨rfl, hk4⟩; have HK4 := Lib.hid hk4; clear hk4) | (go_at_call 33; refine (HKY.out _).mono ?_; rintro e W5 ⟨rfl, hk5⟩; have HK5 := Lib.hid hk5; clear hk5))
  go_ret
  exact ⟨rfl, (((HK.out.trans HK2.out).trans HK3.out).trans HK4.out).trans HK5.out⟩
end Go.Proofs.YthfepfpmkckdnaaDoor
