/- hdkey's Point, Public, four; the law's Own. No condition. | hdkey.four; a copy that is cut; what Step lays. No condition. | Two ways of a condition come together again: what comes behind is walked once. No condition. | A drawn region with two operations ready; slices of one's own beside a new block; ways that join. No condition. -/
import Derived.Test.YtlofddoojkeakaaDoorGE2
import Derived.Test.YtlofddoojkeakaaDoorGA0
namespace Go.Proofs.YtlofddoojkeakaaDoor
set_option linter.unusedVariables false
set_option linter.unusedSimpArgs false
open Go Go.RowKit Cv

def pointR (k : KD) : List Int × Int := if goodV k.x k.z = true then (pointV k.x k.z, 0) else (zeroL33, 3)
theorem pubV_good {x : Int} {z : List Int} (h : goodV x z = true) (h0 : x = 0) : keyB (be z) = true := by unfold goodV at h; rwa [if_pos h0] at h
theorem pointV_len {k : KD} (h : k.ok) : (pointV k.x k.z).length = 33 := by
  unfold pointV
  split
  · exact pubV_len _
  · exact h.dl
theorem pointV_bytes {k : KD} (h : k.ok) : Bytes (pointV k.x k.z) := by
  unfold pointV
  split
  · exact pubV_bytes _
  · exact h.db
theorem cons_of {l : List Int} (h : l.length = 33) : l = l.headD 0 :: l.drop 1 := by
  cases l with
  | nil => cases h
  | cons x l => rfl
set_option maxRecDepth 100000 in
set_option maxHeartbeats 2000000 in
theorem point_k (k : KD) (h : k.ok) (w : World) : Calls Tryd.prog 13 #[.agg k.cells.toArray] w fun e w' => e = .returned (.tuple #[.agg ((pointR k).1.map (Value.int .u8)).toArray, .int .i64 (pointR k).2]) ∧ Keeps w w' := by
  have HG := Lib.hid (fun W => good_k k h W)
  have HP := Lib.hid (fun W => private_k k h W)
  have HS := Lib.hid (fun W => secret_k k h W)
  have HU := Lib.hid (fun W => public_any k.z h.zb h.zl W)
  have HD := Lib.hid (fun (W : World) (p : Nat) (hr : Row W p 0 k.cells) => h.row38 hr)
  have ZK := Lib.hid h.sz
  have hdl := h.dl
  have hpl := pubV_len (be k.z)
  have hcase : (goodV k.x k.z = false ∧ pointR k = (zeroL33, 3)) ∨ (goodV k.x k.z = true ∧ ¬ k.x = 0 ∧ pointR k = (k.x :: k.z, 0)) ∨ (goodV k.x k.z = true ∧ k.x = 0 ∧ pointR k = (pubV (be k.z), 0) ∧ errV (be k.z) = 0) := by
    unfold pointR
    cases hg : goodV k.x k.z with
    | false => exact .inl ⟨rfl, rfl⟩
    | true =>
      by_cases hx : k.x = 0
      · exact .inr (.inr ⟨rfl, hx, by rw [if_pos rfl]; unfold pointV; rw [if_pos hx], by unfold errV; rw [if_pos (pubV_good hg hx)]⟩)
      · exact .inr (.inl ⟨rfl, hx, by rw [if_pos rfl]; unfold pointV; rw [if_neg hx]⟩)
  generalize k.cells = X at *
  generalize pointR k = PR at *
  generalize goodV k.x k.z = gv at *
  generalize pubV (be k.z) = PB at *
  generalize errV (be k.z) = er at *
  generalize k.z = z at *
  generalize k.x = x at *
  clear h
  rcases hcase with ⟨rfl, rfl⟩ | ⟨rfl, hx, rfl⟩ | ⟨rfl, hx, rfl, rfl⟩
  all_goals
    go_enter Tryd.func13, Tryd.ntmps13
    go_upto_region 1 with (fail)
    refine cu_rows2 (fun W hk hr hr2 hs => ?_)
    obtain ⟨p, hp⟩ : ∃ p, p = w.heap.size := ⟨_, rfl⟩
    rw [← hp] at hr hr2 hs ⊢
    have hkp : w.heap.size ≤ p := by omega
    have HR := Lib.hid (show Row W p 0 X from by simpa using hr); have HK := Lib.hid hk
    obtain ⟨Zr, hZr, hrz⟩ : ∃ Zr : List Value, Zr.length = 33 ∧ Row W (p + 1) 0 Zr := ⟨_, rfl, hr2⟩
    have HRZ := Lib.hid hrz
    clear hp hk hr hr2 hs hrz
  · go_wp2_with (first | (refine wpList_load_at rfl 30 (.tmp 1) rfl p 0 rfl _ _ HR.out Tryd.underlying30 rfl ZK.out ?_) | (go_at_call 11; refine (HG.out _).mono ?_; rintro e W1 ⟨rfl, hk1⟩; have HK1 := Lib.hid hk1; clear hk1) | (refine wpList_store_row rfl 25 (.tmp 2) (.tmp 7) rfl (p + 1) 0 rfl Zr (zeroL33.map (Value.int .u8)) rfl (HRZ.out.keeps HK1.out) (by rw [hZr]; rfl) sz_b33 (int_oneCell _) ?_; intro w9 hr9 hc9; have H9 := Lib.hid hr9; have HC9 := Lib.hid hc9; clear hr9 hc9))
    exact bodyPost_ret (results_cell_tmpB (p := 2) (t := 3) (ty := 25) rfl _ _ (p + 1) 0 _ _ _ rfl rfl H9.out Tryd.underlying25 rfl sz_b33) rfl ⟨rfl, nm_keeps_chg (HK.out.trans HK1.out) HC9.out (by omega)⟩
  · rw [decide_eq_false hx] at HP
    go_upto_region 3 with (first | (refine wpList_load_at rfl 30 (.tmp 1) rfl p 0 rfl _ _ HR.out Tryd.underlying30 rfl ZK.out ?_) | (go_at_call 11; refine (HG.out _).mono ?_; rintro e W1 ⟨rfl, hk1⟩; have HK1 := Lib.hid hk1; clear hk1))
    have HR := Lib.hid (HR.out.keeps HK1.out)
    go_upto_region 4 with (first | (refine wpList_load_at rfl 30 (.tmp 1) rfl p 0 rfl _ _ HR.out Tryd.underlying30 rfl ZK.out ?_) | (go_at_call 9; refine (HP.out _).mono ?_; rintro e W2 ⟨rfl, hk1⟩; have HK2 := Lib.hid (HK1.out.trans hk1); have HR2 := Lib.hid (HD.out _ _ (HR.out.keeps hk1)); clear hk1))
    go_wp2_with (first | (refine wpList_load_at rfl 25 (.tmp 11) rfl p 38 rfl _ _ HR2.out Tryd.underlying25 rfl (by rw [List.length_map, hdl]; exact sz_b33) ?_) | (refine wpList_store_row rfl 25 (.tmp 2) (.tmp 12) rfl (p + 1) 0 rfl Zr ((x :: z).map (Value.int .u8)) rfl (HRZ.out.keeps HK2.out) (by rw [List.length_map, hdl, hZr]) (by rw [List.length_map, hdl]; exact sz_b33) (int_oneCell _) ?_; intro w9 hr9 hc9; have H9 := Lib.hid hr9; have HC9 := Lib.hid hc9; clear hr9 hc9))
    exact bodyPost_ret (results_cell_tmpB (p := 2) (t := 3) (ty := 25) rfl _ _ (p + 1) 0 _ _ _ rfl rfl H9.out Tryd.underlying25 rfl (by rw [List.length_map, hdl]; exact sz_b33)) rfl ⟨rfl, nm_keeps_chg (HK.out.trans HK2.out) HC9.out (by omega)⟩
  · rw [decide_eq_true hx] at HP
    go_upto_region 3 with (first | (refine wpList_load_at rfl 30 (.tmp 1) rfl p 0 rfl _ _ HR.out Tryd.underlying30 rfl ZK.out ?_) | (go_at_call 11; refine (HG.out _).mono ?_; rintro e W1 ⟨rfl, hk1⟩; have HK1 := Lib.hid hk1; clear hk1))
    have HR := Lib.hid (HR.out.keeps HK1.out)
    go_upto_region 5 with (first | (refine wpList_load_at rfl 30 (.tmp 1) rfl p 0 rfl _ _ HR.out Tryd.underlying30 rfl ZK.out ?_) | (go_at_call 9; refine (HP.out _).mono ?_; rintro e W2 ⟨rfl, hk1⟩; have HK2 := Lib.hid (HK1.out.trans hk1); have HR2 := Lib.hid (HR.out.keeps hk1); clear hk1))
    go_wp2_with (first | (refine wpList_load_at rfl 30 (.tmp 1) rfl p 0 rfl _ _ HR2.out Tryd.underlying30 rfl ZK.out ?_) | (go_at_call 20; refine (HS.out _).mono ?_; rintro e W3 ⟨rfl, hk1⟩; have HK3 := Lib.hid (HK2.out.trans hk1); clear hk1) | (go_at_call 26; refine (HU.out _).mono ?_; rintro e W4 ⟨rfl, hk1⟩; have HK4 := Lib.hid (HK3.out.trans hk1); clear hk1) | (refine wpList_store_row rfl 25 (.tmp 2) (.tmp 16) rfl (p + 1) 0 rfl Zr (PB.map (Value.int .u8)) rfl (HRZ.out.keeps HK4.out) (by rw [List.length_map, hpl, hZr]) (by rw [List.length_map, hpl]; exact sz_b33) (int_oneCell _) ?_; intro w9 hr9 hc9; have H9 := Lib.hid hr9; have HC9 := Lib.hid hc9; clear hr9 hc9))
    exact bodyPost_ret (results_cell_tmpB (p := 2) (t := 3) (ty := 25) rfl _ _ (p + 1) 0 _ _ _ rfl rfl H9.out Tryd.underlying25 rfl (by rw [List.length_map, hpl]; exact sz_b33)) rfl ⟨rfl, nm_keeps_chg (HK.out.trans HK4.out) HC9.out (by omega)⟩
/-- a key built out of its five fields -/
def keyPlace : Nat → Option (Nat × Nat) := (([(0, 1), (1, 4), (5, 1), (6, 32), (38, 33)] : List (Nat × Nat)).toArray[·]?)
theorem key_parts (k : KD) : k.cells = [Value.int .u8 k.d] ++ (k.fg.map (Value.int .u8) ++ ([Value.int .u32 k.ch] ++ (k.cc.map (Value.int .u8) ++ (k.x :: k.z).map (Value.int .u8)))) := by simp [KD.cells, keyCells]
theorem fill_key (k : KD) (h : k.ok) : Instr.fill keyPlace K0.cells.toArray [(0, .int .u8 k.d), (1, .agg (k.fg.map (Value.int .u8)).toArray), (2, .int .u32 k.ch), (3, .agg (k.cc.map (Value.int .u8)).toArray), (4, .agg ((k.x :: k.z).map (Value.int .u8)).toArray)] = some k.cells.toArray := by
  rw [key_parts K0, key_parts k]
  have hz4 : (K0.fg.map (Value.int .u8)).length = 4 := rfl
  have hzc : (K0.cc.map (Value.int .u8)).length = 32 := rfl
  have hzd : ((K0.x :: K0.z).map (Value.int .u8)).length = 33 := rfl
  have hf : (k.fg.map (Value.int .u8)).length = 4 := by simp [h.fl]
  have hc : (k.cc.map (Value.int .u8)).length = 32 := by simp [h.cl]
  have hd : ((k.x :: k.z).map (Value.int .u8)).length = 33 := by simp [h.zl]
  generalize K0.fg.map (Value.int .u8) = A at *
  generalize K0.cc.map (Value.int .u8) = B at *
  generalize (K0.x :: K0.z).map (Value.int .u8) = C at *
  generalize k.fg.map (Value.int .u8) = FF at *
  generalize k.cc.map (Value.int .u8) = CC at *
  generalize (k.x :: k.z).map (Value.int .u8) = DD at *
  have s0 := hk_fill_at keyPlace [] [.int .u8 K0.d] (A ++ ([.int .u32 K0.ch] ++ (B ++ C))) [.int .u8 k.d] 0 (.int .u8 k.d) [(1, .agg FF.toArray), (2, .int .u32 k.ch), (3, .agg CC.toArray), (4, .agg DD.toArray)] rfl rfl rfl
  have s1 := hk_fill_at keyPlace [.int .u8 k.d] A ([.int .u32 K0.ch] ++ (B ++ C)) FF 1 (.agg FF.toArray) [(2, .int .u32 k.ch), (3, .agg CC.toArray), (4, .agg DD.toArray)] rfl (by rw [hz4, hf]) (by rw [hf]; rfl)
  have s2 := hk_fill_at keyPlace ([.int .u8 k.d] ++ FF) [.int .u32 K0.ch] (B ++ C) [.int .u32 k.ch] 2 (.int .u32 k.ch) [(3, .agg CC.toArray), (4, .agg DD.toArray)] rfl rfl (by rw [List.length_append, hf]; rfl)
  have s3 := hk_fill_at keyPlace ([.int .u8 k.d] ++ FF ++ [.int .u32 k.ch]) B C CC 3 (.agg CC.toArray) [(4, .agg DD.toArray)] rfl (by rw [hzc, hc]) (by rw [List.length_append, List.length_append, hf, hc]; rfl)
  have s4 := hk_fill_at keyPlace ([.int .u8 k.d] ++ FF ++ [.int .u32 k.ch] ++ CC) C [] DD 4 (.agg DD.toArray) [] rfl (by rw [hzd, hd]) (by rw [List.length_append, List.length_append, List.length_append, hf, hc, hd]; rfl)
  simp only [List.append_assoc, List.nil_append, List.append_nil] at s0 s1 s2 s3 s4
  rw [s0, s1, s2, s3, s4]
  rfl
theorem built_own (k : KD) (h : k.ok) : Tryd.prog.built 30 [(0, .int .u8 k.d), (1, .agg (k.fg.map (Value.int .u8)).toArray), (2, .int .u32 k.ch), (3, .agg (k.cc.map (Value.int .u8)).toArray), (4, .agg ((k.x :: k.z).map (Value.int .u8)).toArray)] = some k.cells.toArray := by
  rw [show ∀ parts, Tryd.prog.built 30 parts = Instr.fill keyPlace K0.cells.toArray parts from fun parts => by kernel_rfl]
  exact fill_key k h
theorem built_none : Tryd.prog.built 30 [] = some K0.cells.toArray := by kernel_rfl
theorem KD.ok.rows {k : KD} (h : k.ok) {W : World} {p : Nat} (hr : Row W p 0 k.cells) : W.cell? ⟨p, 0, none⟩ = some (.int .u8 k.d) ∧ Row W p 1 (k.fg.map (Value.int .u8)) ∧ W.cell? ⟨p, 5, none⟩ = some (.int .u32 k.ch) ∧ Row W p 6 (k.cc.map (Value.int .u8)) := by
  have hf : (k.fg.map (Value.int .u8)).length = 4 := by simp [h.fl]
  have hc : (k.cc.map (Value.int .u8)).length = 32 := by simp [h.cl]
  have e := key_parts k
  rw [e] at hr
  generalize (k.x :: k.z).map (Value.int .u8) = DD at *
  generalize k.cc.map (Value.int .u8) = CC at *
  generalize k.fg.map (Value.int .u8) = FF at *
  clear e
  refine ⟨(hr 0 _ rfl).1, ?_, ?_, ?_⟩
  · have := (hr.drop 1).take 4
    rwa [show ([Value.int .u8 k.d] ++ (FF ++ ([Value.int .u32 k.ch] ++ (CC ++ DD)))).drop 1 = FF ++ ([Value.int .u32 k.ch] ++ (CC ++ DD)) from rfl, List.take_left' hf, Nat.zero_add] at this
  · have := hr.drop 5
    rw [show ([Value.int .u8 k.d] ++ (FF ++ ([Value.int .u32 k.ch] ++ (CC ++ DD)))) = ([Value.int .u8 k.d] ++ FF) ++ ([Value.int .u32 k.ch] ++ (CC ++ DD)) by simp, List.drop_left' (by simp [hf]), Nat.zero_add] at this
    exact (this 0 _ rfl).1
  · have := (hr.drop 6).take 32
    rwa [show ([Value.int .u8 k.d] ++ (FF ++ ([Value.int .u32 k.ch] ++ (CC ++ DD)))) = ([Value.int .u8 k.d] ++ FF ++ [Value.int .u32 k.ch]) ++ (CC ++ DD) by simp, List.drop_left' (by simp [hf]), List.take_left' hc, Nat.zero_add] at this
set_option maxRecDepth 100000 in
set_option maxHeartbeats 2000000 in
theorem own_any (k : KD) (h : k.ok) (w : World) : Calls Tryd.prog 5 #[.agg k.cells.toArray] w fun e w' => e = .returned (.agg k.cells.toArray) ∧ Keeps w w' := by
  have HB := Lib.hid (built_own k h)
  have HRW := Lib.hid (fun (W : World) (p : Nat) (hr : Row W p 0 k.cells) => And.intro (h.rows hr) (h.row38 hr))
  have HSZ := Lib.hid h.sz
  have HLN := Lib.hid (show k.cells.length = K0.cells.length by rw [h.len]; rfl)
  have HON := Lib.hid k.one
  have hf : (k.fg.map (Value.int .u8)).length = 4 := by simp [h.fl]
  have hc : (k.cc.map (Value.int .u8)).length = 32 := by simp [h.cl]
  have hd : ((k.x :: k.z).map (Value.int .u8)).length = 33 := by simp [h.zl]
  generalize k.fg.map (Value.int .u8) = FF at *
  generalize k.cc.map (Value.int .u8) = CC at *
  generalize (k.x :: k.z).map (Value.int .u8) = DD at *
  generalize k.cells = K at *
  generalize k.d = kd at *
  generalize k.ch = kh at *
  clear h
  go_enter Tryd.func5, Tryd.ntmps5
  go_upto_region 1 with (fail)
  refine cu_rows2 (fun W hk hr hr2 hs => ?_)
  obtain ⟨⟨c0, r1, c5, r6⟩, r38⟩ := HRW.out _ _ (show Row W w.heap.size 0 K from by simpa using hr)
  have HZ := Lib.hid (show Row W (w.heap.size + 1) 0 K0.cells from hr2)
  have R1 := Lib.hid r1; have R6 := Lib.hid r6; have R38 := Lib.hid r38; have HK := Lib.hid hk
  clear hk hr hr2 hs r1 r6 r38
  generalize hp : w.heap.size = p at *
  have HP := Lib.hid hp
  clear hp
  go_wp2_with (first
    | (refine cu_load (by kernel_rfl) 22 (.tmp 5) rfl p 1 rfl _ _ R1.out Tryd.underlying22 rfl (by rw [hf]; exact sz_b4) ?_)
    | (refine cu_load (by kernel_rfl) 24 (.tmp 9) rfl p 6 rfl _ _ R6.out Tryd.underlying24 rfl (by rw [hc]; exact sz_b32') ?_)
    | (refine cu_load (by kernel_rfl) 25 (.tmp 11) rfl p 38 rfl _ _ R38.out Tryd.underlying25 rfl (by rw [hd]; exact sz_b33) ?_)
    | (refine cu_build (by kernel_rfl) 30 _ rfl _ ?_ _ HB.out ?_; focus (simp only [List.map_toArray, List.map_cons, List.map_nil]; rfl))
    | (refine wpList_store_row rfl 30 (.tmp 2) (.tmp 13) rfl (p + 1) 0 rfl K0.cells K rfl HZ.out HLN.out HSZ.out HON.out ?_; intro w9 hr9 hc9; have H9 := Lib.hid hr9; have HC9 := Lib.hid hc9; clear hr9 hc9))
  exact bodyPost_ret (v := .agg K.toArray) (results_cell_at (p := 2) (ty := 30) rfl _ _ (p + 1) 0 _ _ rfl H9.out Tryd.underlying30 rfl HSZ.out) rfl ⟨rfl, nm_keeps_chg HK.out HC9.out (by have := HP.out; omega)⟩
theorem pubK_ok {k : KD} (h : k.ok) : (pubK k).ok := by
  have hl := pointV_len h
  have hb := pointV_bytes h
  have e := cons_of hl
  refine ⟨h.d, h.fl, h.fb, h.ch, h.cl, h.cb, ?_, ?_, ?_⟩
  · refine hb _ ?_
    show (pointV k.x k.z).headD 0 ∈ pointV k.x k.z
    generalize pointV k.x k.z = l at *
    cases l with
    | nil => cases hl
    | cons a l => exact List.mem_cons_self
  · show ((pointV k.x k.z).drop 1).length = 32
    rw [List.length_drop, hl]
  · exact fun y hy => hb y (List.mem_of_mem_drop hy)
theorem publicV_ok {k : KD} (h : k.ok) : (publicV k).1.ok := by
  unfold publicV
  split
  · exact pubK_ok h
  · exact K0_ok
theorem pubK_put (k : KD) (h : k.ok) : k.cells.take 38 ++ (pointV k.x k.z).map (Value.int .u8) ++ k.cells.drop (38 + ((pointV k.x k.z).map (Value.int .u8)).length) = (pubK k).cells := by
  have hl := pointV_len h
  have hc : (k.cc.map (Value.int .u8)).length = 32 := by simp [h.cl]
  have hf : (k.fg.map (Value.int .u8)).length = 4 := by simp [h.fl]
  rw [List.drop_eq_nil_of_le (by rw [List.length_map, hl, h.len]; exact Nat.le_refl _), List.append_nil]
  rw [key_parts k, key_parts (pubK k)]
  show _ = [Value.int .u8 k.d] ++ (k.fg.map (Value.int .u8) ++ ([Value.int .u32 k.ch] ++ (k.cc.map (Value.int .u8) ++ ((pointV k.x k.z).headD 0 :: (pointV k.x k.z).drop 1).map (Value.int .u8))))
  rw [← cons_of hl, show ([Value.int .u8 k.d] ++ (k.fg.map (Value.int .u8) ++ ([Value.int .u32 k.ch] ++ (k.cc.map (Value.int .u8) ++ (k.x :: k.z).map (Value.int .u8))))) = ([Value.int .u8 k.d] ++ k.fg.map (Value.int .u8) ++ [Value.int .u32 k.ch] ++ k.cc.map (Value.int .u8)) ++ (k.x :: k.z).map (Value.int .u8) by simp, List.take_left' (by simp [hf, hc])]
  simp
set_option maxRecDepth 100000 in
set_option maxHeartbeats 2000000 in
theorem public_k (k : KD) (h : k.ok) (w : World) : Calls Tryd.prog 7 #[.agg k.cells.toArray] w fun e w' => e = .returned (.tuple #[.agg (publicV k).1.cells.toArray, .int .i64 (publicV k).2]) ∧ Keeps w w' := by
  have HPT := Lib.hid (fun W => point_k k h W)
  have hcase : (pointR k = (zeroL33, 3) ∧ publicV k = (K0, 3)) ∨ (pointR k = (pointV k.x k.z, 0) ∧ publicV k = (pubK k, 0)) := by
    unfold pointR publicV
    cases goodV k.x k.z with
    | false => exact .inl ⟨rfl, rfl⟩
    | true => exact .inr ⟨rfl, rfl⟩
  have HPUT := Lib.hid (pubK_put k h)
  have ZK := Lib.hid h.sz
  have hl := pointV_len h
  have hkl := h.len
  have ZP := Lib.hid (pubK_ok h).sz
  have hpl := (pubK_ok h).len
  have HON := Lib.hid (pubK k).one
  have Z0 := Lib.hid K0_ok.sz
  generalize pointR k = PR at *
  generalize publicV k = PV at *
  generalize (pubK k) = PK at *
  generalize pointV k.x k.z = PT at *
  generalize k.cells = K at *
  clear h
  rcases hcase with ⟨rfl, rfl⟩ | ⟨rfl, rfl⟩
  all_goals
    go_enter Tryd.func7, Tryd.ntmps7
    go_upto_region 1 with (fail)
    refine cu_rows2 (fun W hk hr hr2 hs => ?_)
    obtain ⟨p, hp⟩ : ∃ p, p = w.heap.size := ⟨_, rfl⟩
    rw [← hp] at hr hr2 hs ⊢
    have hkp : w.heap.size ≤ p := by omega
    have HR := Lib.hid (show Row W p 0 K from by simpa using hr); have HK := Lib.hid hk
    have HRZ := Lib.hid (show Row W (p + 1) 0 K0.cells from hr2)
    have hps : p + 1 < W.heap.size := by omega
    clear hp hk hr hr2 hs
  · go_upto_region 2 with (first | (refine wpList_load_at rfl 30 (.tmp 1) rfl p 0 rfl _ _ HR.out Tryd.underlying30 rfl ZK.out ?_) | (go_at_call 13; refine (HPT.out _).mono ?_; rintro e W1 ⟨rfl, hk1⟩; have HK1 := Lib.hid hk1; clear hk1) | (refine wpList_store_row rfl 25 (.tmp 4) (.tmp 9) rfl W1.heap.size 0 rfl (zeroL33.map (Value.int .u8)) (zeroL33.map (Value.int .u8)) rfl (Row.new _ _ _ rfl) rfl sz_b33 (int_oneCell _) ?_; intro W3 hr2 hc2; have HK3 := Lib.hid (nm_keeps_chg (nm_keeps_alloc HK1.out _) hc2 HK1.out.size); clear hr2 hc2))
    have HRZ := Lib.hid (HRZ.out.keeps HK3.out); have HK := Lib.hid (HK.out.trans HK3.out)
    go_wp2_with (first | (refine cu_build (by kernel_rfl) 30 _ rfl [] ?_ _ built_none ?_; focus rfl) | (refine wpList_store_row rfl 30 (.tmp 2) (.tmp 13) rfl (p + 1) 0 rfl K0.cells K0.cells rfl HRZ.out rfl Z0.out K0.one ?_; intro w9 hr9 hc9; have H9 := Lib.hid hr9; have HC9 := Lib.hid hc9; clear hr9 hc9))
    exact bodyPost_ret (results_cell_tmpB (p := 2) (t := 3) (ty := 30) rfl _ _ (p + 1) 0 _ _ _ rfl rfl H9.out Tryd.underlying30 rfl Z0.out) rfl ⟨rfl, nm_keeps_chg HK.out HC9.out (by omega)⟩
  · go_upto_region 2 with (first | (refine wpList_load_at rfl 30 (.tmp 1) rfl p 0 rfl _ _ HR.out Tryd.underlying30 rfl ZK.out ?_) | (go_at_call 13; refine (HPT.out _).mono ?_; rintro e W1 ⟨rfl, hk1⟩; have HK1 := Lib.hid hk1; clear hk1) | (refine wpList_store_row rfl 25 (.tmp 4) (.tmp 9) rfl W1.heap.size 0 rfl (zeroL33.map (Value.int .u8)) (PT.map (Value.int .u8)) rfl (Row.new _ _ _ rfl) (by rw [List.length_map, hl]; rfl) (by rw [List.length_map, hl]; exact sz_b33) (int_oneCell _) ?_; intro W3 hr2 hc2; have HR4 := Lib.hid hr2; have HK3 := Lib.hid (nm_keeps_chg (nm_keeps_alloc HK1.out _) hc2 HK1.out.size); clear hr2 hc2))
    have HRZ := Lib.hid (HRZ.out.keeps HK3.out); have HR := Lib.hid (HR.out.keeps HK3.out); have HK := Lib.hid (HK.out.trans HK3.out)
    have hq : p < W1.heap.size := Nat.lt_of_lt_of_le (by omega) HK1.out.size
    generalize W1.heap.size = q at *
    go_upto_region 5 with (first | (refine wpList_load_at rfl 25 (.tmp 4) rfl q 0 rfl _ _ HR4.out Tryd.underlying25 rfl (by rw [List.length_map, hl]; exact sz_b33) ?_) | (refine wpList_store_in rfl 25 (.tmp 16) (.tmp 15) rfl p 38 rfl K (PT.map (Value.int .u8)) rfl HR.out (by rw [List.length_map, hl, hkl]; decide) (by rw [List.length_map, hl]; exact sz_b33) (int_oneCell _) ?_; intro W5 hr5 hc5; have HR5 := Lib.hid (show Row W5 p 0 PK.cells by rw [← HPUT.out]; exact hr5); have HC5 := Lib.hid hc5; clear hr5 hc5))
    have HRZ := Lib.hid (HRZ.out.chg HC5.out (by omega)); have HK := Lib.hid (nm_keeps_chg HK.out HC5.out (by omega))
    go_wp2_with (first | (refine wpList_load_at rfl 30 (.tmp 1) rfl p 0 rfl _ _ HR5.out Tryd.underlying30 rfl ZP.out ?_) | (refine wpList_store_row rfl 30 (.tmp 2) (.tmp 17) rfl (p + 1) 0 rfl K0.cells PK.cells rfl HRZ.out (by rw [hpl]; rfl) ZP.out HON.out ?_; intro w9 hr9 hc9; have H9 := Lib.hid hr9; have HC9 := Lib.hid hc9; clear hr9 hc9))
    exact bodyPost_ret (results_cell_tmpB (p := 2) (t := 3) (ty := 30) rfl _ _ (p + 1) 0 _ _ _ rfl rfl H9.out Tryd.underlying30 rfl ZP.out) rfl ⟨rfl, nm_keeps_chg HK.out HC9.out (by omega)⟩
/-- a copy into fewer places than there are bytes -/
theorem hk_copy_cut {w : World} {ops : Array Oper} {rest : List Oper} {o : Oper} {a : Act} {Q : Exit → Act → World → Prop} (hgd : o.guard = none) (d s : Operand)
    (ho : o.op = .call { callee := .builtin .copy, args := #[d, s], argTypes := #[38, 38] }) (g i m c1 : Nat) (hd : a.eval d = .slice (some ⟨g, i, none⟩) m c1) (sa : Option Addr) (n cap : Nat) (hs : a.eval s = .slice sa n cap) (hn : m ≤ n) (hm0 : 0 < m)
    (vs : List Value) (hg : Row w g 0 vs) (hl : i + m ≤ vs.length) (xs : List Value) (hr : Rd w 1 (.slice sa n cap) n xs) (h1 : ∀ v ∈ xs, v.oneCell' = true)
    (h : ∀ w', Row w' g 0 (vs.take i ++ xs.take m ++ vs.drop (i + m)) → Chg (· = g) w w' → wpList Tryd.prog ops Q rest (a.put o.dst (goInt m)) w') : wpList Tryd.prog ops Q (o :: rest) a w := by
  have hxl0 : xs.length = n := by have := hr.1; simpa using this
  have sz : (Tryd.prog.info? 5).map (·.size) = some 1 := by kernel_rfl
  obtain ⟨_, a', cap', e, h2, h3, h4, h5⟩ := hr
  cases e
  cases sa with
  | none => have := (h4 rfl).1; omega
  | some ad =>
    obtain ⟨g2, off2, rfl, _, hrow0⟩ := h5 ad rfl (by omega)
    have hrow := hrow0.take m
    have hxl : (xs.take m).length = m := by rw [List.length_take, hxl0]; omega
    have h1' : ∀ v ∈ xs.take m, v.oneCell' = true := fun v hv => h1 v (List.mem_of_mem_take hv)
    generalize xs.take m = ys at *
    have hadd : ∀ j, (⟨g2, off2, none⟩ : Addr).add j = ⟨g2, off2 + j, none⟩ := fun j => by unfold Addr.add; split <;> simp_all
    have hsub := (hg.drop i).take m
    have hsl : ((vs.drop i).take m).length = m := by simp; omega
    rw [Nat.zero_add] at hsub
    have hld := run_loadCells_list (P := Tryd.prog) w ⟨g2, off2, none⟩ ys (fun j v hv => by rw [hadd]; exact (hrow j v hv).1)
    have hst := run_storeCells_cells (P := Tryd.prog) g i ys 0 w (fun j hj => by
        rw [Nat.add_zero]
        have := hsub j ((vs.drop i).take m)[j] (List.getElem?_eq_getElem (by omega))
        rw [this.1]; rfl) (fun j hj => by
        rw [Nat.add_zero]
        exact (hsub j ((vs.drop i).take m)[j] (List.getElem?_eq_getElem (by omega))).2) h1'
    simp only [Nat.add_zero] at hst
    refine wpList_plain hgd fun K hK => ?_
    cases hq : Tryd.prog.info? 5 with
    | none => simp [hq] at sz
    | some x =>
      have hx : x.size = 1 := by simpa [hq] using sz
      have hmin : Nat.min n m = m := Nat.min_eq_right hn
      have hrun : (Builtin.copy_ #[38, 38] o.type #[.slice (some ⟨g, i, none⟩) m c1, .slice (some ⟨g2, off2, none⟩) n cap]).run Tryd.prog w = .ok (goInt m) (w.setCells g i ys) := by
        rw [hxl] at hld
        simp [Builtin.copy_, run_underlying Tryd.underlying38, Builtin.lenOf, Builtin.firstCells, sizeOf, typeInfo, hq, hx, hmin, hld, hst]
      unfold Oper.wp
      simp [execOp, ho, resolve, invoke, builtin, hd, hs, hrun, Result.andThen]
      have hrow2 := Row.setCells (w := w) ys i hg (by omega)
      rw [Nat.zero_add, hxl] at hrow2
      exact hK _ _ (h _ hrow2 (setCells_chg _ _ _ _))
set_option maxRecDepth 100000 in
set_option maxHeartbeats 1000000 in
theorem four_any (n : Int) (h0 : 0 ≤ n) (h1 : n < 4294967296) (w : World) : Calls Tryd.prog 22 #[.int .u32 n] w fun e w' => ∃ g, e = .returned (.slice (some ⟨g, 0, none⟩) 4 4) ∧ Keeps w w' ∧ w.heap.size ≤ g ∧ g < w'.heap.size ∧ Row w' g 0 ((four n).map (Value.int .u8)) := by
  have e1 : IntKind.u8.wrap (n / 16777216) = n / 16777216 := by rw [IntKind.wrap_u8]; omega
  have e2 : IntKind.u8.wrap (n / 65536) = n / 65536 % 256 := by rw [IntKind.wrap_u8]
  have e3 : IntKind.u8.wrap (n / 256) = n / 256 % 256 := by rw [IntKind.wrap_u8]
  have e4 : IntKind.u8.wrap n = n % 256 := by rw [IntKind.wrap_u8]
  go_enter Tryd.func22, Tryd.ntmps22
  go_wp2
  go_ret
  exact ⟨w.heap.size, rfl, nm_keeps_alloc (Keeps.refl w) _, Nat.le_refl _, by simp, Row.new _ _ _ rfl⟩
end Go.Proofs.YtlofddoojkeakaaDoor
namespace Go.Proofs.YtlofddoojkeakaaDoor
set_option linter.unusedVariables false
set_option linter.unusedSimpArgs false
open Go Go.RowKit
def putAll (a : Act) : List Nat → List Value → Act
  | t :: ts, u :: us => putAll (a.put (some t) u) ts us
  | _, _ => a
section
variable {P : Program} {ops : Array Oper} {md : Region.Mode} {S : World → Prop} {Q : Exit → Act → World → Prop}
theorem wp_join2 {c rest : Code} {Q0 : Exit → Act → World → Prop} {K1 : Act → World → Prop} {a : Act} {w : World} (ts : List Nat) (J : List Value → World → Prop) (hK1 : ∀ a w, Code.wp P rest Q a w → K1 a w)
    (h2 : (∀ us w', us.length = ts.length → J us w' → K1 (putAll a ts us) w') → Code.wp P c Q0 a w) (h1 : ∀ us w', us.length = ts.length → J us w' → Code.wp P rest Q (putAll a ts us) w') : Code.wp P c Q0 a w :=
  h2 (fun us w' hl hj => hK1 _ _ (h1 us w' hl hj))
theorem hl_gen {n : Nat} {L : Array Bool → Act → World → Prop} {f : Nat} {listed : Array Bool} {a : Act} {w : World} (I : World → Prop) (hI : I w) (h : ∀ W, I W → wpAnyHL P md ops Q S n L f listed a W) : wpAnyHL P md ops Q S n L f listed a w := h w hI
/-- one of two operations that are ready -/
theorem wpAnyHL_two {n i j : Nat} {o o' : Oper} {L : Array Bool → Act → World → Prop} {fuel : Nat} {listed : Array Bool} {a : Act} {w : World} (hr : Region.ready md ops listed = [i, j]) (hin : decide (i < n ∧ j < n) = true) (ho : ops[i]? = some o := by simp only [kG]; exact rfl) (ho' : ops[j]? = some o' := by simp only [kG]; exact rfl)
    (h : wpList P ops (StepQ Q (fun a w => S w ∧ (S w → wpAnyHL P md ops Q S n L fuel (listed.setIfInBounds i true) a w))) [o] a w)
    (h' : wpList P ops (StepQ Q (fun a w => S w ∧ (S w → wpAnyHL P md ops Q S n L fuel (listed.setIfInBounds j true) a w))) [o'] a w) : wpAnyHL P md ops Q S n L (fuel + 1) listed a w := by
  have key : ∀ k ok, ops[k]? = some ok → wpList P ops (StepQ Q (fun a w => S w ∧ (S w → wpAnyHL P md ops Q S n L fuel (listed.setIfInBounds k true) a w))) [ok] a w → wpOp P ops Q k (fun a' w' => S w' ∧ wpAnyHL P md ops Q S n L fuel (listed.setIfInBounds k true) a' w') a w := fun k ok hok h => by
    unfold wpOp
    simp only [hok]
    simp only [wpList] at h
    split
    · rename_i hw
      simp only [hw, if_true] at h
      rcases h with h | ⟨h1, h2⟩
      · exact .inl (wp_stepQ h (fun a w hk => ⟨hk.1, hk.2 hk.1⟩))
      · exact .inr ⟨h1, h2⟩
    · rename_i hw
      simp only [hw] at h
      exact ⟨h.1, h.2 h.1⟩
  have hd := of_decide_eq_true hin
  refine ⟨by rw [hr]; simp, fun k hk => ?_⟩
  rw [hr] at hk
  rcases List.mem_cons.1 hk with rfl | hk
  · exact ⟨hd.1, key _ _ ho h⟩
  · obtain rfl : k = j := by simpa using hk
    exact ⟨hd.2, key _ _ ho' h'⟩
end
theorem own_made {w W : World} (hk : Keeps w W) (T : TypeId) : Own w (W.alloc (.cells #[] T)) (.slice (some ⟨W.heap.size, 0, none⟩) 0 0) 0 [] :=
  ⟨nm_keeps_alloc hk _, Buf.made T, fun g h => by simp [Value.ownBlock] at h; have := hk.size; omega⟩
/-- a new block that lies beside a slice -/
structure HdAlong (w W : World) (q : Nat) (zs : List Value) (v : Value) : Prop where
  row : Row W q 0 zs
  ge : w.heap.size ≤ q
  lt : q < W.heap.size
  ne : v.ownBlock ≠ some q
theorem HdAlong.new {w W : World} (hk : Keeps w W) {v : Value} {n : Nat} {l : List Int} (h : Own w W v n l) (zs : List Value) (C : Array Value) (hC : C = zs.toArray) (T : TypeId) : HdAlong w (W.alloc (.cells C T)) W.heap.size zs v :=
  ⟨by subst hC; exact Row.new _ _ _ rfl, hk.size, by simp, fun e => by have := h.buf.lt e; omega⟩
theorem HdAlong.keeps {w W W' : World} {q : Nat} {zs : List Value} {v : Value} (h : HdAlong w W q zs v) (hk : Keeps W W') : HdAlong w W' q zs v := ⟨h.row.keeps hk, h.ge, Nat.lt_of_lt_of_le h.lt hk.size, h.ne⟩
theorem HdAlong.grown {w W W' : World} {q : Nat} {zs : List Value} {v v' : Value} (h : HdAlong w W q zs v) (hg : Grown W W' v v') : HdAlong w W' q zs v' :=
  ⟨h.row.chg hg.1 (fun e => h.ne e), h.ge, Nat.lt_of_lt_of_le h.lt hg.1.size, by
    rcases hg.2 with e | ⟨g, e, hge⟩
    · rw [e]; exact h.ne
    · rw [e]; intro e2; have := h.lt; cases e2; omega⟩
theorem HdAlong.made {w W : World} {q : Nat} {zs : List Value} {v : Value} (h : HdAlong w W q zs v) (T : TypeId) : HdAlong w (W.alloc (.cells #[] T)) q zs (.slice (some ⟨W.heap.size, 0, none⟩) 0 0) :=
  ⟨h.row.alloc _, h.ge, by have := h.lt; simp; omega, by have := h.lt; simp [Value.ownBlock]; omega⟩
end Go.Proofs.YtlofddoojkeakaaDoor
