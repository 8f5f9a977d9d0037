/- hdkey's Step, over letters. No condition. -/
import Derived.Test.YtlofddoojkeakaaDoorGE3
namespace Go.Proofs.YtlofddoojkeakaaDoor
set_option linter.unusedVariables false
set_option linter.unusedSimpArgs false
open Go Go.RowKit Cv

def zeroL64k : List Int := List.replicate 64 0
theorem own_none {w W : World} (hk : Keeps w W) : Own w W (.slice none 0 0) 0 [] := (Own.nil w).step hk
theorem alloc_key {o : Oper} (hg : o.guard = none) (ho : o.op = .alloc 30) : AllocsAs Tryd.prog o K0.cells := ⟨hg, 30, fun a w => by
  unfold execOp
  simp only [ho]
  go_simp
  exact ⟨rfl, by rw [show Tryd.zeroCells30 = K0.cells.toArray from by kernel_rfl]⟩⟩
/-- a child's key before its finger and its data are laid -/
def kidA (d n : Int) (cc : List Int) : KD := ⟨d, Z4, n, cc, 0, Z32k⟩
theorem built_kid (d n : Int) (cc : List Int) (hc : cc.length = 32) : Tryd.prog.built 30 [(0, .int .u8 d), (2, .int .u32 n), (3, .agg (cc.map (Value.int .u8)).toArray)] = some (kidA d n cc).cells.toArray := by
  rw [show ∀ parts, Tryd.prog.built 30 parts = Instr.fill keyPlace K0.cells.toArray parts from fun parts => by kernel_rfl]
  rw [key_parts K0, key_parts (kidA d n cc)]
  have hz4 : (K0.fg.map (Value.int .u8)).length = 4 := rfl
  have hzc : (K0.cc.map (Value.int .u8)).length = 32 := rfl
  have hcc : (cc.map (Value.int .u8)).length = 32 := by simp [hc]
  show Instr.fill keyPlace _ _ = some ([Value.int .u8 d] ++ (K0.fg.map (Value.int .u8) ++ ([Value.int .u32 n] ++ (cc.map (Value.int .u8) ++ (K0.x :: K0.z).map (Value.int .u8))))).toArray
  generalize K0.fg.map (Value.int .u8) = A at *
  generalize K0.cc.map (Value.int .u8) = B at *
  generalize (K0.x :: K0.z).map (Value.int .u8) = C at *
  generalize cc.map (Value.int .u8) = CC at *
  have s0 := hk_fill_at keyPlace [] [.int .u8 K0.d] (A ++ ([.int .u32 K0.ch] ++ (B ++ C))) [.int .u8 d] 0 (.int .u8 d) [(2, .int .u32 n), (3, .agg CC.toArray)] rfl rfl rfl
  have s2 := hk_fill_at keyPlace ([.int .u8 d] ++ A) [.int .u32 K0.ch] (B ++ C) [.int .u32 n] 2 (.int .u32 n) [(3, .agg CC.toArray)] rfl rfl (by rw [List.length_append, hz4]; rfl)
  have s3 := hk_fill_at keyPlace ([.int .u8 d] ++ A ++ [.int .u32 n]) B C CC 3 (.agg CC.toArray) [] rfl (by rw [hzc, hcc]) (by rw [List.length_append, List.length_append, hz4, hcc]; rfl)
  simp only [List.append_assoc, List.nil_append, List.append_nil] at s0 s2 s3
  rw [s0, s2, s3]
  rfl
theorem kidA_finger (d n : Int) (cc fg : List Int) (hf : fg.length = 4) : (kidA d n cc).cells.take 1 ++ fg.map (Value.int .u8) ++ (kidA d n cc).cells.drop (1 + 4) = (KD.mk d fg n cc 0 Z32k).cells := by
  rw [key_parts, key_parts]
  have h4 : (Z4.map (Value.int .u8)).length = 4 := rfl
  show ([Value.int .u8 d] ++ (Z4.map (Value.int .u8) ++ _)).take 1 ++ _ ++ ([Value.int .u8 d] ++ (Z4.map (Value.int .u8) ++ _)).drop 5 = [Value.int .u8 d] ++ (fg.map (Value.int .u8) ++ _)
  rw [show ∀ X : List Value, ([Value.int .u8 d] ++ X).take 1 = [Value.int .u8 d] from fun _ => rfl, ← List.append_assoc [Value.int .u8 d] (Z4.map (Value.int .u8)), List.drop_left' (by simp [h4]), List.append_assoc]
  rfl
theorem kid_data (k : KD) (hf : k.fg.length = 4) (hc : k.cc.length = 32) (z' : List Int) (hz : k.z.length = 32) (hz' : z'.length = 32) : k.cells.take 39 ++ z'.map (Value.int .u8) ++ k.cells.drop (39 + 32) = (KD.mk k.d k.fg k.ch k.cc k.x z').cells := by
  have e : ∀ z : List Int, (KD.mk k.d k.fg k.ch k.cc k.x z).cells = ([Value.int .u8 k.d] ++ k.fg.map (Value.int .u8) ++ [Value.int .u32 k.ch] ++ k.cc.map (Value.int .u8) ++ [Value.int .u8 k.x]) ++ z.map (Value.int .u8) := fun z => by rw [key_parts]; simp
  rw [show k.cells = _ from e k.z, e z', List.take_left' (by simp [hf, hc]), List.drop_eq_nil_of_le (by simp [hf, hc, hz]), List.append_nil]
theorem kid_data33 (k : KD) (hf : k.fg.length = 4) (hc : k.cc.length = 32) (hz : k.z.length = 32) (x' : Int) (z' : List Int) (hl : (x' :: z').length = 33) : k.cells.take 38 ++ (x' :: z').map (Value.int .u8) ++ k.cells.drop (38 + ((x' :: z').map (Value.int .u8)).length) = (KD.mk k.d k.fg k.ch k.cc x' z').cells := by
  rw [key_parts k, key_parts (KD.mk k.d k.fg k.ch k.cc x' z')]
  rw [List.drop_eq_nil_of_le (by rw [List.length_map, hl]; simp [hf, hc, hz]), List.append_nil, show ([Value.int .u8 k.d] ++ (k.fg.map (Value.int .u8) ++ ([Value.int .u32 k.ch] ++ (k.cc.map (Value.int .u8) ++ (k.x :: k.z).map (Value.int .u8))))) = ([Value.int .u8 k.d] ++ k.fg.map (Value.int .u8) ++ [Value.int .u32 k.ch] ++ k.cc.map (Value.int .u8)) ++ (k.x :: k.z).map (Value.int .u8) by simp, List.take_left' (by simp [hf, hc])]
  simp
theorem sz_b20 : (Tryd.prog.info? 60).map (·.size) = some 20 := by kernel_rfl
set_option maxRecDepth 100000 in
set_option maxHeartbeats 16000000 in
theorem step_hard (k : KD) (h : k.ok) (n : Int) (h0 : 0 ≤ n) (h1 : n < 4294967296) (hg : goodV k.x k.z = true) (hd : ¬ k.d = 255) (hh : ¬ (2147483648 ≤ n ∧ ¬ k.x = 0)) (hmd : 2147483648 ≤ n) (w : World) :
    Calls Tryd.prog 12 #[.agg k.cells.toArray, .int .u32 n] w fun e w' => e = .returned (.tuple #[.agg (stepV k n).1.cells.toArray, .int .i64 (stepV k n).2]) ∧ Keeps w w' := by
  have hpr : pointR k = (pointV k.x k.z, 0) := by unfold pointR; rw [if_pos hg]
  have hpt0 := fun W => point_k k h W
  rw [hpr] at hpt0
  dsimp only at hpt0
  have HPT := Lib.hid hpt0
  clear hpt0 hpr
  have HPR := Lib.hid (fun W => private_k k h W)
  have hpl := pointV_len h
  have hpb := pointV_bytes h
  have hkl := h.len
  have ZK := Lib.hid h.sz
  have R38 := Lib.hid (fun (W : World) (p : Nat) (hr : Row W p 0 k.cells) => h.row38 hr)
  have RWS := Lib.hid (fun (W : World) (p : Nat) (hr : Row W p 0 k.cells) => h.rows hr)
  have HFOUR := Lib.hid (fun W => four_any n h0 h1 W)
  have lF4 : (four n).length = 4 := rfl
  have bF4 := four_bytes h0 h1
  have hdl := h.dl
  have hdb := h.db
  have hcl := h.cl
  have hcb := h.cb
  have hchH := childH_len k n
  obtain ⟨FR, hFR, hfl, hfb⟩ : ∃ FR, FR = (if 2147483648 ≤ n then k.x :: k.z else pointV k.x k.z) ∧ FR.length = 33 ∧ Bytes FR := by
    by_cases hn : 2147483648 ≤ n
    · exact ⟨_, rfl, by rw [if_pos hn]; exact hdl, by rw [if_pos hn]; exact hdb⟩
    · exact ⟨_, rfl, by rw [if_neg hn]; exact hpl, by rw [if_neg hn]; exact hpb⟩
  have hch : B64.hmac k.cc (FR ++ four n) = childH k n := by unfold childH; rw [hFR]
  have HHM0 := Lib.hid (fun (kv bv : Value) (W : World) (hk : Rd W 1 kv 32 (k.cc.map (Value.int .u8))) (hb : Rd W 1 bv 37 ((FR ++ four n).map (Value.int .u8))) => B64.hmac_any kv bv 32 37 k.cc (FR ++ four n) W hk hcb (by omega) hb (fun y hy => by rcases List.mem_append.1 hy with e | e; exact hfb y e; exact bF4 y e) (by omega))
  rw [hch] at HHM0
  have hst1 : (childB k n).2 = 0 → stepV k n = (⟨k.d + 1, fingerV k, n, (childH k n).drop 32, (childB k n).1.headD 0, (childB k n).1.drop 1⟩, 0) := fun e => by
    unfold stepV; rw [if_pos hg, if_neg hd, if_neg hh, if_pos e]
  have hst2 : ¬ (childB k n).2 = 0 → stepV k n = (K0, 7) := fun e => by
    unfold stepV; rw [if_pos hg, if_neg hd, if_neg hh, if_neg e]
  have hcb0 : k.x = 0 → childB k n = (0 :: (addKV (be k.z) (be ((childH k n).take 32))).1, (addKV (be k.z) (be ((childH k n).take 32))).2) := fun e => by unfold childB; rw [if_pos e]
  have hcb1 : ¬ k.x = 0 → childB k n = addPV (k.x :: k.z) (be ((childH k n).take 32)) := fun e => by unfold childB; rw [if_neg e]
  have hbyb : Bytes ((childH k n).take 32) := fun y hy => childH_bytes k n y (List.mem_of_mem_take hy)
  have HAK := Lib.hid (fun W => addkey_any k.z ((childH k n).take 32) h.zb hbyb h.zl (by rw [List.length_take, hchH]; rfl) W)
  have HAP := Lib.hid (fun W => addpub_any (k.x :: k.z) ((childH k n).take 32) hdb hbyb hdl (by rw [List.length_take, hchH]; rfl) W)
  have lAK := addKV_len (be k.z) (be ((childH k n).take 32))
  have lAP := addPV_len (k.x :: k.z) (be ((childH k n).take 32))
  have HSE := Lib.hid (fun W => secret_k k h W)
  have hzl := h.zl
  have HH160 := Lib.hid (fun (v : Value) W (hv : Rd W 1 v 33 ((pointV k.x k.z).map (Value.int .u8))) => Rip.hash160_any v 33 (pointV k.x k.z) W hv hpb (by omega))
  have l20 := Rip.rip160_length (sha256 (pointV k.x k.z))
  have hfin : fingerV k = (Rip.rip160 (sha256 (pointV k.x k.z))).take 4 := rfl
  generalize Rip.rip160 (sha256 (pointV k.x k.z)) = F20 at *
  generalize fingerV k = FG at *
  generalize addKV (be k.z) (be ((childH k n).take 32)) = AK at *
  generalize addPV (k.x :: k.z) (be ((childH k n).take 32)) = AP at *
  generalize childB k n = CB at *
  obtain ⟨a0, az, hap⟩ : ∃ a0 az, AP.1 = a0 :: az := by cases hA : AP.1 with | nil => rw [hA] at lAP; cases lAP | cons a l => exact ⟨a, l, rfl⟩
  have HAPE := Lib.hid hap; clear hap
  generalize childH k n = CH at *
  generalize four n = F4 at *
  generalize pointV k.x k.z = PV at *
  have hmode : (2147483648 ≤ n ∧ FR = k.x :: k.z) ∨ (¬ 2147483648 ≤ n ∧ FR = PV) := by
    by_cases hn : 2147483648 ≤ n
    · exact .inl ⟨hn, by rw [hFR, if_pos hn]⟩
    · exact .inr ⟨hn, by rw [hFR, if_neg hn]⟩
  clear hFR hch
  have HMODE := Lib.hid hmode
  have hx0 : 2147483648 ≤ n → k.x = 0 := fun hn => Classical.byContradiction fun e => hh ⟨hn, e⟩
  generalize k.cells = KC at *
  generalize stepV k n = ST at *
  have HST1 := Lib.hid hst1; have HST2 := Lib.hid hst2; have HCB0 := Lib.hid hcb0; have HCB1 := Lib.hid hcb1; have HFIN := Lib.hid hfin
  clear hmode hst1 hst2 hcb0 hcb1 hfin
  have hd2 : (k.d == 255) = false := by rw [beq_eq_false_iff_ne]; exact hd
  go_enter Tryd.func12, Tryd.ntmps12
  go_upto_region 1 with (fail)
  refine cu_rows2 (fun W hk hr hr2 hs => ?_)
  obtain ⟨p, hp⟩ : ∃ p, p = w.heap.size := ⟨_, rfl⟩
  rw [← hp] at hr hr2 hs ⊢
  have hkp : w.heap.size ≤ p := by omega
  have HR := Lib.hid (show Row W p 0 KC from by simpa using hr); have HK := Lib.hid hk
  have HRZ := Lib.hid (show Row W (p + 1) 0 K0.cells from hr2)
  have hps : p + 1 < W.heap.size := by omega
  clear hp hk hr hr2 hs
  go_upto_region 2 with (first | (refine wpList_load_at rfl 30 (.tmp 2) rfl p 0 rfl _ _ HR.out Tryd.underlying30 rfl ZK.out ?_) | (go_at_call 13; refine (HPT.out _).mono ?_; rintro e W1 ⟨rfl, hk1⟩; have HK1 := Lib.hid hk1; clear hk1) | (refine ws (g := W1.heap.size) (olds := (zeroL33.map (Value.int .u8))) (Row.new _ _ _ rfl) hpl rfl (h := ?_); intro W6 hr2 hc2; have HR6 := Lib.hid hr2; have HK3 := Lib.hid (nm_keeps_chg (nm_keeps_alloc HK1.out _) hc2 HK1.out.size); clear hr2 hc2))
  have HRZ := Lib.hid (HRZ.out.keeps HK3.out); have HR := Lib.hid (HR.out.keeps HK3.out); have HKW := Lib.hid (HK.out.trans HK3.out)
  have hpq : p + 1 < W1.heap.size := Nat.lt_of_lt_of_le hps HK1.out.size
  generalize W1.heap.size = q6 at *
  have hqW : q6 < W6.heap.size := HR6.out.lt (map_ne hpl)
  clear HK HK1 HK3
  obtain ⟨c0, r1, c5, r6⟩ := RWS.out _ _ HR.out
  have R6 := Lib.hid r6; have C0 := Lib.hid c0
  clear r1 r6 c5
  rcases HMODE.out with ⟨hn, hFR⟩ | ⟨hn, hFR⟩
  · skip
    have hx := hx0 hn
    go_upto_region 11 with (first | (refine cu_load (by kernel_rfl) 30 (.tmp 2) rfl p 0 rfl _ _ HR.out Tryd.underlying30 rfl ZK.out ?_) | (go_at_call 9; refine (HPR.out _).mono ?_; rintro e W7 ⟨rfl, hk1⟩; have HK7 := Lib.hid hk1; clear hk1))
    refine wp_gen (fun W => Keeps w W ∧ Row W p 0 KC ∧ Row W (p + 1) 0 K0.cells ∧ Row W q6 0 (PV.map (Value.int .u8)) ∧ Row W p 6 (k.cc.map (Value.int .u8)) ∧ q6 < W.heap.size) ⟨HKW.out.trans HK7.out, HR.out.keeps HK7.out, HRZ.out.keeps HK7.out, HR6.out.keeps HK7.out, R6.out.keeps HK7.out, Nat.lt_of_lt_of_le hqW HK7.out.size⟩ ?_
    clear HR HRZ HKW HR6 R6 C0 hqW c0
    rintro W6 ⟨hk, hr, hr2, hr3, hr4, hqW⟩
    have HKW := Lib.hid hk; have HR := Lib.hid hr; have HRZ := Lib.hid hr2; have HR6 := Lib.hid hr3; have R6 := Lib.hid hr4
    clear hk hr hr2 hr3 hr4
    have hcc : (k.cc.map (Value.int .u8)).length = 32 := by rw [List.length_map, hcl]
    have HHM := Lib.hid (fun bv W (hk : Keeps W6 W) (hb : Rd W 1 bv 37 ((FR ++ F4).map (Value.int .u8))) => HHM0.out (.slice (some ⟨p, 6, none⟩) 32 32) bv W (Rd.of_row (R6.out.keeps hk) (by rw [hcc]) (by have := hk.size; omega) (Nat.le_refl _) (by unfold maxLen; omega)) hb)
    have HSRC := Lib.hid (fun W (hk : Keeps W6 W) => show Src Tryd.prog 1 38 (.slice (some ⟨p, 38, none⟩) 33 33) 33 (FR.map (Value.int .u8)) W from Src.row Tryd.underlying38 (by rw [List.length_map, hfl]) (by rw [hFR]; exact R38.out _ _ (HR.out.keeps hk)) (int_oneCell _))
    rename_i K1 hK1
    refine wp_join2 [9, 43, 44, 45, 46, 47, 48, 49, 50, 51] (fun us W => ∃ q9, us.getD 0 undef = .pointer (some ⟨q9, 0, none⟩) ∧ Keeps W6 W ∧ Row W q9 0 (CH.map (Value.int .u8)) ∧ W6.heap.size ≤ q9) hK1 (fun key0 => ?_) ?_
    focus
      have key := fun u1 u2 u3 u4 u5 u6 u7 u8 u9 u10 w' => key0 [u1, u2, u3, u4, u5, u6, u7, u8, u9, u10] w' rfl
      clear key0 hK1
      simp only [putAll, kP] at key
      have KEY := Lib.hid key
      clear key
      refine wp_region_head (S := fun W => Hid ((fun W => Keeps W6 W) W)) 10 (by kernel_rfl) (by kernel_rfl) ?_ (fun hHeld => ?_)
      focus exact Lib.hid (keeps_drew1 (Keeps.refl _))
      refine lt 0 (h := ?_)
      refine lt 1 (h := ?_)
      refine lt 3 (h := ?_)
      refine lt 5 (h := ?_)
      refine hl_gen (fun W => Keeps W6 W) hHeld.out ?_
      intro W hk
      have HK := Lib.hid hk; clear hk hHeld
      have hHeld : Hid (Keeps W6 W) := HK
      refine wpAnyHL_two (i := 2) (j := 9) (by kernel_rfl) (by kernel_rfl) (h := ?_) (h' := ?_)
      · skip
        go_wp2
        try dsimp only [StepQ]
        refine ⟨?_, fun hHeld => ?_⟩
        focus (exact Lib.hid (nm_keeps_alloc HK.out _))
        try simp only [kP]
        obtain ⟨v0, hv0⟩ : ∃ v0, v0 = Value.slice (some ⟨W.heap.size, 0, none⟩) 0 0 := ⟨_, rfl⟩
        rw [← hv0]
        have HV0 := Lib.hid hv0; clear hv0
        refine hl_gen (fun W => Keeps W6 W ∧ Own W6 W v0 0 []) ⟨nm_keeps_alloc HK.out _, by rw [HV0.out]; exact own_made HK.out _⟩ ?_
        rintro W ⟨hk, ho⟩
        have HK := Lib.hid hk; have HO := Lib.hid ho; clear hk ho
        have hHeld : Hid (Keeps W6 W) := HK
        refine wpAnyHL_two (i := 4) (j := 9) (by kernel_rfl) (by kernel_rfl) (h := ?_) (h' := ?_)
        · skip
          go_wp2_with (refine own_append rfl (.tmp 45) (.tmp 46) rfl HO.out (Keeps.refl _) rfl _ rfl 33 FR (HSRC.out _ HK.out) (by omega) ?_; intro v1 w1 ho1 hg1; have HO1 := Lib.hid ho1; have HG1 := Lib.hid hg1; clear ho1 hg1)
          try dsimp only [StepQ]
          refine ⟨?_, fun hHeld => ?_⟩
          focus (exact Lib.hid (HO1.out.keeps))
          try simp only [kP]
          refine hl_gen (fun W => Keeps W6 W ∧ Own W6 W v1 33 FR) ⟨HO1.out.keeps, by have := HO1.out; rwa [List.nil_append] at this⟩ ?_
          rintro W ⟨hk, ho⟩
          have HK := Lib.hid hk; have HO := Lib.hid ho; clear hk ho
          have hHeld : Hid (Keeps W6 W) := HK
          refine wpAnyHL_two (i := 6) (j := 9) (by kernel_rfl) (by kernel_rfl) (h := ?_) (h' := ?_)
          · skip
            go_wp2_with (go_at_call 22; refine (HFOUR.out _).mono ?_; rintro r w2 ⟨g4, rfl, hk2, hge2, hlt2, hr2⟩; have HK2 := Lib.hid hk2; have HR2 := Lib.hid hr2; clear hk2 hr2)
            try dsimp only [StepQ]
            refine ⟨?_, fun hHeld => ?_⟩
            focus (exact Lib.hid (HK.out.trans HK2.out))
            try simp only [kP]
            refine hl_gen (fun W => Keeps W6 W ∧ Own W6 W v1 33 FR ∧ (g4 < W.heap.size ∧ Row W g4 0 (F4.map (Value.int .u8)) ∧ v1.ownBlock ≠ some g4)) ⟨HK.out.trans HK2.out, HO.out.step HK2.out, ⟨hlt2, HR2.out, fun e => by have := HO.out.buf.lt e; omega⟩⟩ ?_
            rintro W ⟨hk, ho, hf⟩
            have HK := Lib.hid hk; have HO := Lib.hid ho; have HF := Lib.hid hf; clear hk ho hf
            have hHeld : Hid (Keeps W6 W) := HK
            refine wpAnyHL_two (i := 7) (j := 9) (by kernel_rfl) (by kernel_rfl) (h := ?_) (h' := ?_)
            · skip
              go_wp2_with (refine own_append rfl (.tmp 47) (.tmp 49) rfl HO.out (Keeps.refl _) rfl _ rfl 4 F4 (Src.row Tryd.underlying38 (by simp [lF4]) HF.out.2.1 (int_oneCell _)) (by omega) ?_; intro v2 w3 ho1 hg1; have HO1 := Lib.hid ho1; have HG1 := Lib.hid hg1; clear ho1 hg1)
              try dsimp only [StepQ]
              refine ⟨?_, fun hHeld => ?_⟩
              focus (exact Lib.hid (HO1.out.keeps))
              try simp only [kP]
              refine hl_gen (fun W => Keeps W6 W ∧ Own W6 W v2 37 (FR ++ F4)) ⟨HO1.out.keeps, HO1.out⟩ ?_
              rintro W ⟨hk, ho⟩
              have HK := Lib.hid hk; have HO := Lib.hid ho; clear hk ho
              have hHeld : Hid (Keeps W6 W) := HK
              refine wpAnyHL_two (i := 8) (j := 9) (by kernel_rfl) (by kernel_rfl) (h := ?_) (h' := ?_)
              · skip
                go_wp2_with (go_at_call 14; refine (HHM.out _ _ HK.out HO.out.rd).mono ?_; rintro r w4 ⟨rfl, hk2⟩; have HK2 := Lib.hid hk2; clear hk2)
                try dsimp only [StepQ]
                refine ⟨?_, fun hHeld => ?_⟩
                focus (exact Lib.hid (HK.out.trans HK2.out))
                try simp only [kP]
                refine hl_gen (fun W => Keeps W6 W) (HK.out.trans HK2.out) ?_
                rintro W hk
                have HK := Lib.hid hk; clear hk
                have hHeld : Hid (Keeps W6 W) := HK
                refine wpAnyHL_one (i := 9) (o := ?_) (by kernel_rfl) (by kernel_rfl) ?_ ?_
                rotate_left 1
                focus (simp only [kG]; exact rfl)
                go_wp2
                try dsimp only [StepQ]
                refine ⟨?_, fun hHeld => ?_⟩
                focus (exact Lib.hid (nm_keeps_alloc HK.out _))
                try simp only [kP]
                obtain ⟨q9, hq9⟩ : ∃ q9, q9 = W.heap.size := ⟨_, rfl⟩
                rw [← hq9]
                have HQ9 := Lib.hid hq9; clear hq9
                refine hl_gen (fun W => Keeps W6 W ∧ HdAlong W6 W q9 (zeroL64k.map (Value.int .u8)) (.slice none 0 0)) ⟨nm_keeps_alloc HK.out _, by rw [HQ9.out]; exact HdAlong.new HK.out (own_none HK.out) (zeroL64k.map (Value.int .u8)) _ rfl _⟩ ?_
                rintro W ⟨hk, ha⟩
                have HK := Lib.hid hk; have HA := Lib.hid ha; clear hk ha
                have hHeld : Hid (Keeps W6 W) := HK
                refine wpAnyHL_done (by kernel_rfl) ?_
                try simp only [List.drop_succ_cons, List.drop_zero]
                go_wp2_with (refine ws (g := q9) (olds := (zeroL64k.map (Value.int .u8))) HA.out.row hchH rfl (h := ?_); intro w5 hr5 hc5; have HR5 := Lib.hid hr5; have HC5 := Lib.hid hc5; clear hr5 hc5)
                refine KEY.out _ _ _ _ _ _ _ _ _ _ _ ?_
                exact ⟨q9, rfl, nm_keeps_chg HK.out HC5.out HA.out.ge, HR5.out, HA.out.ge⟩
              · skip
                go_wp2
                try dsimp only [StepQ]
                refine ⟨?_, fun hHeld => ?_⟩
                focus (exact Lib.hid (nm_keeps_alloc HK.out _))
                try simp only [kP]
                obtain ⟨q9, hq9⟩ : ∃ q9, q9 = W.heap.size := ⟨_, rfl⟩
                rw [← hq9]
                have HQ9 := Lib.hid hq9; clear hq9
                refine hl_gen (fun W => Keeps W6 W ∧ Own W6 W v2 37 (FR ++ F4) ∧ HdAlong W6 W q9 (zeroL64k.map (Value.int .u8)) v2) ⟨nm_keeps_alloc HK.out _, HO.out.step (nm_keeps_alloc (Keeps.refl W) _), by rw [HQ9.out]; exact HdAlong.new HK.out (HO.out) (zeroL64k.map (Value.int .u8)) _ rfl _⟩ ?_
                rintro W ⟨hk, ho, ha⟩
                have HK := Lib.hid hk; have HO := Lib.hid ho; have HA := Lib.hid ha; clear hk ho ha
                have hHeld : Hid (Keeps W6 W) := HK
                refine wpAnyHL_one (i := 8) (o := ?_) (by kernel_rfl) (by kernel_rfl) ?_ ?_
                rotate_left 1
                focus (simp only [kG]; exact rfl)
                go_wp2_with (go_at_call 14; refine (HHM.out _ _ HK.out HO.out.rd).mono ?_; rintro r w4 ⟨rfl, hk2⟩; have HK2 := Lib.hid hk2; clear hk2)
                try dsimp only [StepQ]
                refine ⟨?_, fun hHeld => ?_⟩
                focus (exact Lib.hid (HK.out.trans HK2.out))
                try simp only [kP]
                refine hl_gen (fun W => Keeps W6 W ∧ HdAlong W6 W q9 (zeroL64k.map (Value.int .u8)) (.slice none 0 0)) ⟨HK.out.trans HK2.out, ⟨(HA.out.keeps HK2.out).row, HA.out.ge, (HA.out.keeps HK2.out).lt, by simp [Value.ownBlock]⟩⟩ ?_
                rintro W ⟨hk, ha⟩
                have HK := Lib.hid hk; have HA := Lib.hid ha; clear hk ha
                have hHeld : Hid (Keeps W6 W) := HK
                refine wpAnyHL_done (by kernel_rfl) ?_
                try simp only [List.drop_succ_cons, List.drop_zero]
                go_wp2_with (refine ws (g := q9) (olds := (zeroL64k.map (Value.int .u8))) HA.out.row hchH rfl (h := ?_); intro w5 hr5 hc5; have HR5 := Lib.hid hr5; have HC5 := Lib.hid hc5; clear hr5 hc5)
                refine KEY.out _ _ _ _ _ _ _ _ _ _ _ ?_
                exact ⟨q9, rfl, nm_keeps_chg HK.out HC5.out HA.out.ge, HR5.out, HA.out.ge⟩
            · skip
              go_wp2
              try dsimp only [StepQ]
              refine ⟨?_, fun hHeld => ?_⟩
              focus (exact Lib.hid (nm_keeps_alloc HK.out _))
              try simp only [kP]
              obtain ⟨q9, hq9⟩ : ∃ q9, q9 = W.heap.size := ⟨_, rfl⟩
              rw [← hq9]
              have HQ9 := Lib.hid hq9; clear hq9
              refine hl_gen (fun W => Keeps W6 W ∧ Own W6 W v1 33 FR ∧ (g4 < W.heap.size ∧ Row W g4 0 (F4.map (Value.int .u8)) ∧ v1.ownBlock ≠ some g4) ∧ HdAlong W6 W q9 (zeroL64k.map (Value.int .u8)) v1) ⟨nm_keeps_alloc HK.out _, HO.out.step (nm_keeps_alloc (Keeps.refl W) _), ⟨by have := HF.out.1; simp; omega, HF.out.2.1.alloc _, HF.out.2.2⟩, by rw [HQ9.out]; exact HdAlong.new HK.out (HO.out) (zeroL64k.map (Value.int .u8)) _ rfl _⟩ ?_
              rintro W ⟨hk, ho, hf, ha⟩
              have HK := Lib.hid hk; have HO := Lib.hid ho; have HF := Lib.hid hf; have HA := Lib.hid ha; clear hk ho hf ha
              have hHeld : Hid (Keeps W6 W) := HK
              refine wpAnyHL_one (i := 7) (o := ?_) (by kernel_rfl) (by kernel_rfl) ?_ ?_
              rotate_left 1
              focus (simp only [kG]; exact rfl)
              go_wp2_with (refine own_append rfl (.tmp 47) (.tmp 49) rfl HO.out (Keeps.refl _) rfl _ rfl 4 F4 (Src.row Tryd.underlying38 (by simp [lF4]) HF.out.2.1 (int_oneCell _)) (by omega) ?_; intro v2 w3 ho1 hg1; have HO1 := Lib.hid ho1; have HG1 := Lib.hid hg1; clear ho1 hg1)
              try dsimp only [StepQ]
              refine ⟨?_, fun hHeld => ?_⟩
              focus (exact Lib.hid (HO1.out.keeps))
              try simp only [kP]
              refine hl_gen (fun W => Keeps W6 W ∧ Own W6 W v2 37 (FR ++ F4) ∧ HdAlong W6 W q9 (zeroL64k.map (Value.int .u8)) v2) ⟨HO1.out.keeps, HO1.out, HA.out.grown HG1.out⟩ ?_
              rintro W ⟨hk, ho, ha⟩
              have HK := Lib.hid hk; have HO := Lib.hid ho; have HA := Lib.hid ha; clear hk ho ha
              have hHeld : Hid (Keeps W6 W) := HK
              refine wpAnyHL_one (i := 8) (o := ?_) (by kernel_rfl) (by kernel_rfl) ?_ ?_
              rotate_left 1
              focus (simp only [kG]; exact rfl)
              go_wp2_with (go_at_call 14; refine (HHM.out _ _ HK.out HO.out.rd).mono ?_; rintro r w4 ⟨rfl, hk2⟩; have HK2 := Lib.hid hk2; clear hk2)
              try dsimp only [StepQ]
              refine ⟨?_, fun hHeld => ?_⟩
              focus (exact Lib.hid (HK.out.trans HK2.out))
              try simp only [kP]
              refine hl_gen (fun W => Keeps W6 W ∧ HdAlong W6 W q9 (zeroL64k.map (Value.int .u8)) (.slice none 0 0)) ⟨HK.out.trans HK2.out, ⟨(HA.out.keeps HK2.out).row, HA.out.ge, (HA.out.keeps HK2.out).lt, by simp [Value.ownBlock]⟩⟩ ?_
              rintro W ⟨hk, ha⟩
              have HK := Lib.hid hk; have HA := Lib.hid ha; clear hk ha
              have hHeld : Hid (Keeps W6 W) := HK
              refine wpAnyHL_done (by kernel_rfl) ?_
              try simp only [List.drop_succ_cons, List.drop_zero]
              go_wp2_with (refine ws (g := q9) (olds := (zeroL64k.map (Value.int .u8))) HA.out.row hchH rfl (h := ?_); intro w5 hr5 hc5; have HR5 := Lib.hid hr5; have HC5 := Lib.hid hc5; clear hr5 hc5)
              refine KEY.out _ _ _ _ _ _ _ _ _ _ _ ?_
              exact ⟨q9, rfl, nm_keeps_chg HK.out HC5.out HA.out.ge, HR5.out, HA.out.ge⟩
          · skip
            go_wp2
            try dsimp only [StepQ]
            refine ⟨?_, fun hHeld => ?_⟩
            focus (exact Lib.hid (nm_keeps_alloc HK.out _))
            try simp only [kP]
            obtain ⟨q9, hq9⟩ : ∃ q9, q9 = W.heap.size := ⟨_, rfl⟩
            rw [← hq9]
            have HQ9 := Lib.hid hq9; clear hq9
            refine hl_gen (fun W => Keeps W6 W ∧ Own W6 W v1 33 FR ∧ HdAlong W6 W q9 (zeroL64k.map (Value.int .u8)) v1) ⟨nm_keeps_alloc HK.out _, HO.out.step (nm_keeps_alloc (Keeps.refl W) _), by rw [HQ9.out]; exact HdAlong.new HK.out (HO.out) (zeroL64k.map (Value.int .u8)) _ rfl _⟩ ?_
            rintro W ⟨hk, ho, ha⟩
            have HK := Lib.hid hk; have HO := Lib.hid ho; have HA := Lib.hid ha; clear hk ho ha
            have hHeld : Hid (Keeps W6 W) := HK
            refine wpAnyHL_one (i := 6) (o := ?_) (by kernel_rfl) (by kernel_rfl) ?_ ?_
            rotate_left 1
            focus (simp only [kG]; exact rfl)
            go_wp2_with (go_at_call 22; refine (HFOUR.out _).mono ?_; rintro r w2 ⟨g4, rfl, hk2, hge2, hlt2, hr2⟩; have HK2 := Lib.hid hk2; have HR2 := Lib.hid hr2; clear hk2 hr2)
            try dsimp only [StepQ]
            refine ⟨?_, fun hHeld => ?_⟩
            focus (exact Lib.hid (HK.out.trans HK2.out))
            try simp only [kP]
            refine hl_gen (fun W => Keeps W6 W ∧ Own W6 W v1 33 FR ∧ (g4 < W.heap.size ∧ Row W g4 0 (F4.map (Value.int .u8)) ∧ v1.ownBlock ≠ some g4) ∧ HdAlong W6 W q9 (zeroL64k.map (Value.int .u8)) v1) ⟨HK.out.trans HK2.out, HO.out.step HK2.out, ⟨hlt2, HR2.out, fun e => by have := HO.out.buf.lt e; omega⟩, HA.out.keeps HK2.out⟩ ?_
            rintro W ⟨hk, ho, hf, ha⟩
            have HK := Lib.hid hk; have HO := Lib.hid ho; have HF := Lib.hid hf; have HA := Lib.hid ha; clear hk ho hf ha
            have hHeld : Hid (Keeps W6 W) := HK
            refine wpAnyHL_one (i := 7) (o := ?_) (by kernel_rfl) (by kernel_rfl) ?_ ?_
            rotate_left 1
            focus (simp only [kG]; exact rfl)
            go_wp2_with (refine own_append rfl (.tmp 47) (.tmp 49) rfl HO.out (Keeps.refl _) rfl _ rfl 4 F4 (Src.row Tryd.underlying38 (by simp [lF4]) HF.out.2.1 (int_oneCell _)) (by omega) ?_; intro v2 w3 ho1 hg1; have HO1 := Lib.hid ho1; have HG1 := Lib.hid hg1; clear ho1 hg1)
            try dsimp only [StepQ]
            refine ⟨?_, fun hHeld => ?_⟩
            focus (exact Lib.hid (HO1.out.keeps))
            try simp only [kP]
            refine hl_gen (fun W => Keeps W6 W ∧ Own W6 W v2 37 (FR ++ F4) ∧ HdAlong W6 W q9 (zeroL64k.map (Value.int .u8)) v2) ⟨HO1.out.keeps, HO1.out, HA.out.grown HG1.out⟩ ?_
            rintro W ⟨hk, ho, ha⟩
            have HK := Lib.hid hk; have HO := Lib.hid ho; have HA := Lib.hid ha; clear hk ho ha
            have hHeld : Hid (Keeps W6 W) := HK
            refine wpAnyHL_one (i := 8) (o := ?_) (by kernel_rfl) (by kernel_rfl) ?_ ?_
            rotate_left 1
            focus (simp only [kG]; exact rfl)
            go_wp2_with (go_at_call 14; refine (HHM.out _ _ HK.out HO.out.rd).mono ?_; rintro r w4 ⟨rfl, hk2⟩; have HK2 := Lib.hid hk2; clear hk2)
            try dsimp only [StepQ]
            refine ⟨?_, fun hHeld => ?_⟩
            focus (exact Lib.hid (HK.out.trans HK2.out))
            try simp only [kP]
            refine hl_gen (fun W => Keeps W6 W ∧ HdAlong W6 W q9 (zeroL64k.map (Value.int .u8)) (.slice none 0 0)) ⟨HK.out.trans HK2.out, ⟨(HA.out.keeps HK2.out).row, HA.out.ge, (HA.out.keeps HK2.out).lt, by simp [Value.ownBlock]⟩⟩ ?_
            rintro W ⟨hk, ha⟩
            have HK := Lib.hid hk; have HA := Lib.hid ha; clear hk ha
            have hHeld : Hid (Keeps W6 W) := HK
            refine wpAnyHL_done (by kernel_rfl) ?_
            try simp only [List.drop_succ_cons, List.drop_zero]
            go_wp2_with (refine ws (g := q9) (olds := (zeroL64k.map (Value.int .u8))) HA.out.row hchH rfl (h := ?_); intro w5 hr5 hc5; have HR5 := Lib.hid hr5; have HC5 := Lib.hid hc5; clear hr5 hc5)
            refine KEY.out _ _ _ _ _ _ _ _ _ _ _ ?_
            exact ⟨q9, rfl, nm_keeps_chg HK.out HC5.out HA.out.ge, HR5.out, HA.out.ge⟩
        · skip
          go_wp2
          try dsimp only [StepQ]
          refine ⟨?_, fun hHeld => ?_⟩
          focus (exact Lib.hid (nm_keeps_alloc HK.out _))
          try simp only [kP]
          obtain ⟨q9, hq9⟩ : ∃ q9, q9 = W.heap.size := ⟨_, rfl⟩
          rw [← hq9]
          have HQ9 := Lib.hid hq9; clear hq9
          refine hl_gen (fun W => Keeps W6 W ∧ Own W6 W v0 0 [] ∧ HdAlong W6 W q9 (zeroL64k.map (Value.int .u8)) v0) ⟨nm_keeps_alloc HK.out _, HO.out.step (nm_keeps_alloc (Keeps.refl W) _), by rw [HQ9.out]; exact HdAlong.new HK.out (HO.out) (zeroL64k.map (Value.int .u8)) _ rfl _⟩ ?_
          rintro W ⟨hk, ho, ha⟩
          have HK := Lib.hid hk; have HO := Lib.hid ho; have HA := Lib.hid ha; clear hk ho ha
          have hHeld : Hid (Keeps W6 W) := HK
          refine wpAnyHL_one (i := 4) (o := ?_) (by kernel_rfl) (by kernel_rfl) ?_ ?_
          rotate_left 1
          focus (simp only [kG]; exact rfl)
          go_wp2_with (refine own_append rfl (.tmp 45) (.tmp 46) rfl HO.out (Keeps.refl _) rfl _ rfl 33 FR (HSRC.out _ HK.out) (by omega) ?_; intro v1 w1 ho1 hg1; have HO1 := Lib.hid ho1; have HG1 := Lib.hid hg1; clear ho1 hg1)
          try dsimp only [StepQ]
          refine ⟨?_, fun hHeld => ?_⟩
          focus (exact Lib.hid (HO1.out.keeps))
          try simp only [kP]
          refine hl_gen (fun W => Keeps W6 W ∧ Own W6 W v1 33 FR ∧ HdAlong W6 W q9 (zeroL64k.map (Value.int .u8)) v1) ⟨HO1.out.keeps, by have := HO1.out; rwa [List.nil_append] at this, HA.out.grown HG1.out⟩ ?_
          rintro W ⟨hk, ho, ha⟩
          have HK := Lib.hid hk; have HO := Lib.hid ho; have HA := Lib.hid ha; clear hk ho ha
          have hHeld : Hid (Keeps W6 W) := HK
          refine wpAnyHL_one (i := 6) (o := ?_) (by kernel_rfl) (by kernel_rfl) ?_ ?_
          rotate_left 1
          focus (simp only [kG]; exact rfl)
          go_wp2_with (go_at_call 22; refine (HFOUR.out _).mono ?_; rintro r w2 ⟨g4, rfl, hk2, hge2, hlt2, hr2⟩; have HK2 := Lib.hid hk2; have HR2 := Lib.hid hr2; clear hk2 hr2)
          try dsimp only [StepQ]
          refine ⟨?_, fun hHeld => ?_⟩
          focus (exact Lib.hid (HK.out.trans HK2.out))
          try simp only [kP]
          refine hl_gen (fun W => Keeps W6 W ∧ Own W6 W v1 33 FR ∧ (g4 < W.heap.size ∧ Row W g4 0 (F4.map (Value.int .u8)) ∧ v1.ownBlock ≠ some g4) ∧ HdAlong W6 W q9 (zeroL64k.map (Value.int .u8)) v1) ⟨HK.out.trans HK2.out, HO.out.step HK2.out, ⟨hlt2, HR2.out, fun e => by have := HO.out.buf.lt e; omega⟩, HA.out.keeps HK2.out⟩ ?_
          rintro W ⟨hk, ho, hf, ha⟩
          have HK := Lib.hid hk; have HO := Lib.hid ho; have HF := Lib.hid hf; have HA := Lib.hid ha; clear hk ho hf ha
          have hHeld : Hid (Keeps W6 W) := HK
          refine wpAnyHL_one (i := 7) (o := ?_) (by kernel_rfl) (by kernel_rfl) ?_ ?_
          rotate_left 1
          focus (simp only [kG]; exact rfl)
          go_wp2_with (refine own_append rfl (.tmp 47) (.tmp 49) rfl HO.out (Keeps.refl _) rfl _ rfl 4 F4 (Src.row Tryd.underlying38 (by simp [lF4]) HF.out.2.1 (int_oneCell _)) (by omega) ?_; intro v2 w3 ho1 hg1; have HO1 := Lib.hid ho1; have HG1 := Lib.hid hg1; clear ho1 hg1)
          try dsimp only [StepQ]
          refine ⟨?_, fun hHeld => ?_⟩
          focus (exact Lib.hid (HO1.out.keeps))
          try simp only [kP]
          refine hl_gen (fun W => Keeps W6 W ∧ Own W6 W v2 37 (FR ++ F4) ∧ HdAlong W6 W q9 (zeroL64k.map (Value.int .u8)) v2) ⟨HO1.out.keeps, HO1.out, HA.out.grown HG1.out⟩ ?_
          rintro W ⟨hk, ho, ha⟩
          have HK := Lib.hid hk; have HO := Lib.hid ho; have HA := Lib.hid ha; clear hk ho ha
          have hHeld : Hid (Keeps W6 W) := HK
          refine wpAnyHL_one (i := 8) (o := ?_) (by kernel_rfl) (by kernel_rfl) ?_ ?_
          rotate_left 1
          focus (simp only [kG]; exact rfl)
          go_wp2_with (go_at_call 14; refine (HHM.out _ _ HK.out HO.out.rd).mono ?_; rintro r w4 ⟨rfl, hk2⟩; have HK2 := Lib.hid hk2; clear hk2)
          try dsimp only [StepQ]
          refine ⟨?_, fun hHeld => ?_⟩
          focus (exact Lib.hid (HK.out.trans HK2.out))
          try simp only [kP]
          refine hl_gen (fun W => Keeps W6 W ∧ HdAlong W6 W q9 (zeroL64k.map (Value.int .u8)) (.slice none 0 0)) ⟨HK.out.trans HK2.out, ⟨(HA.out.keeps HK2.out).row, HA.out.ge, (HA.out.keeps HK2.out).lt, by simp [Value.ownBlock]⟩⟩ ?_
          rintro W ⟨hk, ha⟩
          have HK := Lib.hid hk; have HA := Lib.hid ha; clear hk ha
          have hHeld : Hid (Keeps W6 W) := HK
          refine wpAnyHL_done (by kernel_rfl) ?_
          try simp only [List.drop_succ_cons, List.drop_zero]
          go_wp2_with (refine ws (g := q9) (olds := (zeroL64k.map (Value.int .u8))) HA.out.row hchH rfl (h := ?_); intro w5 hr5 hc5; have HR5 := Lib.hid hr5; have HC5 := Lib.hid hc5; clear hr5 hc5)
          refine KEY.out _ _ _ _ _ _ _ _ _ _ _ ?_
          exact ⟨q9, rfl, nm_keeps_chg HK.out HC5.out HA.out.ge, HR5.out, HA.out.ge⟩
      · skip
        go_wp2
        try dsimp only [StepQ]
        refine ⟨?_, fun hHeld => ?_⟩
        focus (exact Lib.hid (nm_keeps_alloc HK.out _))
        try simp only [kP]
        obtain ⟨q9, hq9⟩ : ∃ q9, q9 = W.heap.size := ⟨_, rfl⟩
        rw [← hq9]
        have HQ9 := Lib.hid hq9; clear hq9
        refine hl_gen (fun W => Keeps W6 W ∧ HdAlong W6 W q9 (zeroL64k.map (Value.int .u8)) (.slice none 0 0)) ⟨nm_keeps_alloc HK.out _, by rw [HQ9.out]; exact HdAlong.new HK.out (own_none HK.out) (zeroL64k.map (Value.int .u8)) _ rfl _⟩ ?_
        rintro W ⟨hk, ha⟩
        have HK := Lib.hid hk; have HA := Lib.hid ha; clear hk ha
        have hHeld : Hid (Keeps W6 W) := HK
        refine wpAnyHL_one (i := 2) (o := ?_) (by kernel_rfl) (by kernel_rfl) ?_ ?_
        rotate_left 1
        focus (simp only [kG]; exact rfl)
        go_wp2
        try dsimp only [StepQ]
        refine ⟨?_, fun hHeld => ?_⟩
        focus (exact Lib.hid (nm_keeps_alloc HK.out _))
        try simp only [kP]
        obtain ⟨v0, hv0⟩ : ∃ v0, v0 = Value.slice (some ⟨W.heap.size, 0, none⟩) 0 0 := ⟨_, rfl⟩
        rw [← hv0]
        have HV0 := Lib.hid hv0; clear hv0
        refine hl_gen (fun W => Keeps W6 W ∧ Own W6 W v0 0 [] ∧ HdAlong W6 W q9 (zeroL64k.map (Value.int .u8)) v0) ⟨nm_keeps_alloc HK.out _, by rw [HV0.out]; exact own_made HK.out _, by rw [HV0.out]; exact HA.out.made _⟩ ?_
        rintro W ⟨hk, ho, ha⟩
        have HK := Lib.hid hk; have HO := Lib.hid ho; have HA := Lib.hid ha; clear hk ho ha
        have hHeld : Hid (Keeps W6 W) := HK
        refine wpAnyHL_one (i := 4) (o := ?_) (by kernel_rfl) (by kernel_rfl) ?_ ?_
        rotate_left 1
        focus (simp only [kG]; exact rfl)
        go_wp2_with (refine own_append rfl (.tmp 45) (.tmp 46) rfl HO.out (Keeps.refl _) rfl _ rfl 33 FR (HSRC.out _ HK.out) (by omega) ?_; intro v1 w1 ho1 hg1; have HO1 := Lib.hid ho1; have HG1 := Lib.hid hg1; clear ho1 hg1)
        try dsimp only [StepQ]
        refine ⟨?_, fun hHeld => ?_⟩
        focus (exact Lib.hid (HO1.out.keeps))
        try simp only [kP]
        refine hl_gen (fun W => Keeps W6 W ∧ Own W6 W v1 33 FR ∧ HdAlong W6 W q9 (zeroL64k.map (Value.int .u8)) v1) ⟨HO1.out.keeps, by have := HO1.out; rwa [List.nil_append] at this, HA.out.grown HG1.out⟩ ?_
        rintro W ⟨hk, ho, ha⟩
        have HK := Lib.hid hk; have HO := Lib.hid ho; have HA := Lib.hid ha; clear hk ho ha
        have hHeld : Hid (Keeps W6 W) := HK
        refine wpAnyHL_one (i := 6) (o := ?_) (by kernel_rfl) (by kernel_rfl) ?_ ?_
        rotate_left 1
        focus (simp only [kG]; exact rfl)
        go_wp2_with (go_at_call 22; refine (HFOUR.out _).mono ?_; rintro r w2 ⟨g4, rfl, hk2, hge2, hlt2, hr2⟩; have HK2 := Lib.hid hk2; have HR2 := Lib.hid hr2; clear hk2 hr2)
        try dsimp only [StepQ]
        refine ⟨?_, fun hHeld => ?_⟩
        focus (exact Lib.hid (HK.out.trans HK2.out))
        try simp only [kP]
        refine hl_gen (fun W => Keeps W6 W ∧ Own W6 W v1 33 FR ∧ (g4 < W.heap.size ∧ Row W g4 0 (F4.map (Value.int .u8)) ∧ v1.ownBlock ≠ some g4) ∧ HdAlong W6 W q9 (zeroL64k.map (Value.int .u8)) v1) ⟨HK.out.trans HK2.out, HO.out.step HK2.out, ⟨hlt2, HR2.out, fun e => by have := HO.out.buf.lt e; omega⟩, HA.out.keeps HK2.out⟩ ?_
        rintro W ⟨hk, ho, hf, ha⟩
        have HK := Lib.hid hk; have HO := Lib.hid ho; have HF := Lib.hid hf; have HA := Lib.hid ha; clear hk ho hf ha
        have hHeld : Hid (Keeps W6 W) := HK
        refine wpAnyHL_one (i := 7) (o := ?_) (by kernel_rfl) (by kernel_rfl) ?_ ?_
        rotate_left 1
        focus (simp only [kG]; exact rfl)
        go_wp2_with (refine own_append rfl (.tmp 47) (.tmp 49) rfl HO.out (Keeps.refl _) rfl _ rfl 4 F4 (Src.row Tryd.underlying38 (by simp [lF4]) HF.out.2.1 (int_oneCell _)) (by omega) ?_; intro v2 w3 ho1 hg1; have HO1 := Lib.hid ho1; have HG1 := Lib.hid hg1; clear ho1 hg1)
        try dsimp only [StepQ]
        refine ⟨?_, fun hHeld => ?_⟩
        focus (exact Lib.hid (HO1.out.keeps))
        try simp only [kP]
        refine hl_gen (fun W => Keeps W6 W ∧ Own W6 W v2 37 (FR ++ F4) ∧ HdAlong W6 W q9 (zeroL64k.map (Value.int .u8)) v2) ⟨HO1.out.keeps, HO1.out, HA.out.grown HG1.out⟩ ?_
        rintro W ⟨hk, ho, ha⟩
        have HK := Lib.hid hk; have HO := Lib.hid ho; have HA := Lib.hid ha; clear hk ho ha
        have hHeld : Hid (Keeps W6 W) := HK
        refine wpAnyHL_one (i := 8) (o := ?_) (by kernel_rfl) (by kernel_rfl) ?_ ?_
        rotate_left 1
        focus (simp only [kG]; exact rfl)
        go_wp2_with (go_at_call 14; refine (HHM.out _ _ HK.out HO.out.rd).mono ?_; rintro r w4 ⟨rfl, hk2⟩; have HK2 := Lib.hid hk2; clear hk2)
        try dsimp only [StepQ]
        refine ⟨?_, fun hHeld => ?_⟩
        focus (exact Lib.hid (HK.out.trans HK2.out))
        try simp only [kP]
        refine hl_gen (fun W => Keeps W6 W ∧ HdAlong W6 W q9 (zeroL64k.map (Value.int .u8)) (.slice none 0 0)) ⟨HK.out.trans HK2.out, ⟨(HA.out.keeps HK2.out).row, HA.out.ge, (HA.out.keeps HK2.out).lt, by simp [Value.ownBlock]⟩⟩ ?_
        rintro W ⟨hk, ha⟩
        have HK := Lib.hid hk; have HA := Lib.hid ha; clear hk ha
        have hHeld : Hid (Keeps W6 W) := HK
        refine wpAnyHL_done (by kernel_rfl) ?_
        try simp only [List.drop_succ_cons, List.drop_zero]
        go_wp2_with (refine ws (g := q9) (olds := (zeroL64k.map (Value.int .u8))) HA.out.row hchH rfl (h := ?_); intro w5 hr5 hc5; have HR5 := Lib.hid hr5; have HC5 := Lib.hid hc5; clear hr5 hc5)
        refine KEY.out _ _ _ _ _ _ _ _ _ _ _ ?_
        exact ⟨q9, rfl, nm_keeps_chg HK.out HC5.out HA.out.ge, HR5.out, HA.out.ge⟩
    intro us W11 hl hj
    match us, hl with
    | [u1, u2, u3, u4, u5, u6, u7, u8, u9, u10], _ =>
    simp only [putAll, kP]
    clear hK1 K1
    obtain ⟨q9, hq, hk, hrow, hge⟩ := hj
    obtain rfl : u1 = .pointer (some ⟨q9, 0, none⟩) := hq
    have HR := Lib.hid (HR.out.keeps hk); have HRZ := Lib.hid (HRZ.out.keeps hk); have HR6 := Lib.hid (HR6.out.keeps hk); have HKW := Lib.hid (HKW.out.trans hk); have HR9 := Lib.hid hrow
    have hq9 : q6 < q9 := Nat.lt_of_lt_of_le hqW hge
    clear hk hrow hge
    have lBY : (CH.take 32).length = 32 := by rw [List.length_take, hchH]; rfl
    have lCC : (CH.drop 32).length = 32 := by rw [List.length_drop, hchH]
    have RBY := Lib.hid (fun W (hr : Row W q9 0 (CH.map (Value.int .u8))) => show Row W q9 0 ((CH.take 32).map (Value.int .u8)) by rw [List.map_take]; exact hr.take 32)
    have RCC := Lib.hid (fun W (hr : Row W q9 0 (CH.map (Value.int .u8))) => show Row W q9 32 ((CH.drop 32).map (Value.int .u8)) by rw [List.map_drop]; have := hr.drop 32; rwa [Nat.zero_add] at this)
    have hsp1 := fun W => run_arrayAt (P := Tryd.prog) (w := W) 24 5 32 (some ⟨q9, 0, none⟩) 32 64 Tryd.underlying24 (Nat.le_refl _)
    have hsp2 := fun W => run_arrayAt (P := Tryd.prog) (w := W) 24 5 32 (some ⟨q9, 32, none⟩) 32 32 Tryd.underlying24 (Nat.le_refl _)
    have hbk := built_kid (k.d + 1) n (CH.drop 32) lCC
    have HBK := Lib.hid hbk; clear hbk
    generalize hBYe : CH.take 32 = BY at *
    generalize hCCe : CH.drop 32 = CC at *
    have HBYE := Lib.hid hBYe; have HCCE := Lib.hid hCCe
    clear hBYe hCCe
    go_upto_region 13 with (first | (refine wl (RBY.out _ HR9.out) lBY (h := ?_)) | (refine ws (g := W11.heap.size) (olds := (zeroL32.map (Value.int .u8))) (Row.new _ _ _ rfl) lBY rfl (h := ?_); intro W12 hr2 hc2; have HR10 := Lib.hid hr2; have HK12 := Lib.hid (nm_keeps_chg (nm_keeps_alloc (Keeps.refl W11) _) hc2 (Nat.le_refl _)); clear hr2 hc2))
    have hq10 : q9 < W11.heap.size := HR9.out.lt (map_ne hchH)
    generalize W11.heap.size = q10 at *
    have HR := Lib.hid (HR.out.keeps HK12.out); have HRZ := Lib.hid (HRZ.out.keeps HK12.out); have HR6 := Lib.hid (HR6.out.keeps HK12.out); have HR9 := Lib.hid (HR9.out.keeps HK12.out); have HKW := Lib.hid (HKW.out.trans HK12.out)
    have hW12 : q10 < W12.heap.size := HR10.out.lt (map_ne lBY)
    clear HK12
    have hdw : IntKind.u8.wrap (k.d + 1) = k.d + 1 := by rw [IntKind.wrap_u8]; have := h.d; omega
    obtain ⟨KA, hKA⟩ : ∃ KA, KA = kidA (k.d + 1) n CC := ⟨_, rfl⟩
    rw [← hKA] at HBK
    have lKA : KA.cells.length = 71 := by rw [hKA]; exact keyCells_length rfl lCC rfl
    have sKA : (Tryd.prog.info? 30).map (·.size) = some KA.cells.length := by rw [hKA]; exact sz_hkey rfl lCC rfl
    have HKA := Lib.hid hKA; have SKA := Lib.hid sKA
    clear hKA sKA
    refine wp_region_keep 9 [8] [0, 1, 2, 3, 4, 5, 6, 7] (fun _ => K0.cells) (by kernel_rfl) (by kernel_rfl) (by intro i hi; simp only [List.mem_cons, List.not_mem_nil, or_false] at hi; subst hi; exact ⟨_, rfl, alloc_key rfl rfl⟩) ?_
    refine kp (h := ?_)
    refine kp (hx := by (intro wS hS; have c9 := (RWS.out wS p (HR.out.keeps hS)).1; go_simp) <;> with_reducible rfl) (h := ?_)
    iterate 4 refine kp (h := ?_)
    refine kl (fun wS hS => (RCC.out _ (HR9.out.keeps hS))) lCC (h := ?_)
    refine kp (hx := by intro wS hS; (refine cu_run_build 30 [(0, .tmp 57), (2, .tmp 58), (3, .tmp 61)] ?_ _ ?_ _ HBK.out) <;> rfl) (h := ?_)
    refine keep_nil ?_
    intro GG V1 hk1 hG
    obtain ⟨ha8, hz8, hd8⟩ := hG 8 (by simp)
    clear hd8
    simp only [putsA, dstAt, ptrV, kD, kG, kP, Option.bind_some]
    generalize GG 8 = q11 at *
    clear hG
    have HZ8 := Lib.hid hz8; have HV1 := Lib.hid hk1; clear hk1 hz8
    go_upto_region 14 with (refine wpList_store_row rfl 30 (.tmp 11) (.tmp 62) rfl q11 0 rfl K0.cells KA.cells rfl HZ8.out (by rw [lKA]; rfl) SKA.out KA.one ?_; intro W13 hr2 hc2; have HR11 := Lib.hid hr2; have HK13 := Lib.hid (nm_keeps_chg HV1.out hc2 ha8); clear hr2 hc2)
    have HR := Lib.hid (HR.out.keeps HK13.out); have HRZ := Lib.hid (HRZ.out.keeps HK13.out); have HR6 := Lib.hid (HR6.out.keeps HK13.out); have HR10 := Lib.hid (HR10.out.keeps HK13.out); have HKW := Lib.hid (HKW.out.trans HK13.out)
    have hq11 : q10 < q11 := Nat.lt_of_lt_of_le hW12 ha8
    have hW13 : q11 < W13.heap.size := HR11.out.lt (fun e => by rw [e] at lKA; cases lKA)
    clear HK13 HV1 HZ8 ha8 HR9 RCC RBY hsp1 hsp2
    have HP33 := Lib.hid (show Rd W13 1 (.slice (some ⟨q6, 0, none⟩) 33 33) 33 (PV.map (Value.int .u8)) from Rd.of_row HR6.out (by rw [List.length_map, hpl]) (by omega) (Nat.le_refl _) (by unfold maxLen; omega))
    go_upto_region 15 with (first | (go_at_call 23; refine (HH160.out _ _ HP33.out).mono ?_; rintro e W14 ⟨rfl, hk1⟩; have HK14 := Lib.hid hk1; clear hk1) | (refine ws (g := W14.heap.size) (olds := ((List.replicate 20 (0 : Int)).map (Value.int .u8))) (Row.new _ _ _ rfl) l20 rfl (h := ?_); intro W15 hr2 hc2; have HR12 := Lib.hid hr2; have HK15 := Lib.hid (nm_keeps_chg (nm_keeps_alloc HK14.out _) hc2 HK14.out.size); clear hr2 hc2))
    have hq12 : q11 < W14.heap.size := Nat.lt_of_lt_of_le hW13 HK14.out.size
    generalize W14.heap.size = q12 at *
    have HR := Lib.hid (HR.out.keeps HK15.out); have HRZ := Lib.hid (HRZ.out.keeps HK15.out); have HR10 := Lib.hid (HR10.out.keeps HK15.out); have HR11 := Lib.hid (HR11.out.keeps HK15.out); have HKW := Lib.hid (HKW.out.trans HK15.out)
    have hW15 : q12 < W15.heap.size := HR12.out.lt (map_ne l20)
    clear HK14 HK15 HP33 HR6
    have hFGl : FG.length = 4 := by rw [HFIN.out, List.length_take, l20]; rfl
    have HPF := Lib.hid (show KA.cells.take 1 ++ (F20.map (Value.int .u8)).take 4 ++ KA.cells.drop (1 + 4) = (KD.mk (k.d + 1) FG n CC 0 Z32k).cells by rw [← List.map_take, ← HFIN.out, HKA.out]; exact kidA_finger _ _ _ _ hFGl)
    refine wp_region_quiet_tail 3 (by kernel_rfl) (by kernel_rfl) ?_
    simp only [List.take_succ_cons, List.take_zero, List.drop_succ_cons, List.drop_zero]
    repeat (first | go_big_quiet_step (fail) | quiet_step (fail))
    refine wpQuiet_nil ?_
    intro _ hw'
    obtain ⟨nq, hw''⟩ := hw'
    subst hw''
    refine hk_copy_cut rfl (.tmp 66) (.tmp 67) rfl q11 1 4 4 rfl (some ⟨q12, 0, none⟩) 20 20 rfl (by omega) (by omega) KA.cells (HR11.out.drewN nq) (by rw [lKA]; omega) (F20.map (Value.int .u8)) (Rd.of_row (HR12.out.drewN nq) (by rw [List.length_map, l20]) (by show q12 < W15.heap.size; omega) (Nat.le_refl _) (by unfold maxLen; omega)) (int_oneCell _) (fun W16 hr6 hc6 => ?_)
    rw [HPF.out] at hr6
    have HR11 := Lib.hid hr6
    have HR := Lib.hid ((HR.out.drewN nq).chg hc6 (by omega)); have HRZ := Lib.hid ((HRZ.out.drewN nq).chg hc6 (by omega)); have HR10 := Lib.hid ((HR10.out.drewN nq).chg hc6 (by omega)); have HKW := Lib.hid (nm_keeps_chg (HKW.out.trans (Qt.drewN W15 nq).keeps) hc6 (by omega))
    have hW16 : q11 < W16.heap.size := Nat.lt_of_lt_of_le (show q11 < W15.heap.size by omega) hc6.size
    clear hr6 hc6 HPF HR12 SKA HKA HBK
    go_upto_region 16 with (fail)
    generalize hK2 : KD.mk (k.d + 1) FG n CC 0 Z32k = K2 at *
    have HK2 := Lib.hid hK2; clear hK2
    have lK2 : K2.cells.length = 71 := by rw [← HK2.out]; exact keyCells_length hFGl lCC rfl
    go_upto_region 17 with (first | (refine wpList_load_at rfl 30 (.tmp 2) rfl p 0 rfl _ _ HR.out Tryd.underlying30 rfl ZK.out ?_) | (go_at_call 9; rw [decide_eq_true hx] at HPR; refine (HPR.out _).mono ?_; rintro e W17 ⟨rfl, hk1⟩; have HK17 := Lib.hid hk1; clear hk1))
    have HR := Lib.hid (HR.out.keeps HK17.out); have HRZ := Lib.hid (HRZ.out.keeps HK17.out); have HR10 := Lib.hid (HR10.out.keeps HK17.out); have HR11 := Lib.hid (HR11.out.keeps HK17.out); have HKW := Lib.hid (HKW.out.trans HK17.out)
    have hW17 : q11 < W17.heap.size := Nat.lt_of_lt_of_le hW16 HK17.out.size
    clear HK17
    go_upto_region 18 with (fail)
    refine cu_rows1 (fun W18 hk1 hr1 hs1 => ?_)
    obtain ⟨Z13, hZ13, hrz13⟩ : ∃ Z : List Value, Z.length = 32 ∧ Row W18 W17.heap.size 0 Z := ⟨_, rfl, hr1⟩
    have HR13 := Lib.hid hrz13
    have HR := Lib.hid (HR.out.keeps hk1); have HRZ := Lib.hid (HRZ.out.keeps hk1); have HR10 := Lib.hid (HR10.out.keeps hk1); have HR11 := Lib.hid (HR11.out.keeps hk1); have HKW := Lib.hid (HKW.out.trans hk1)
    have hW18 : W17.heap.size < W18.heap.size := by omega
    generalize W17.heap.size = q13 at *
    clear hk1 hr1 hs1 hrz13
    refine wp_region_head (S := fun W => Hid ((fun W' => Keeps w W' ∧ Row W' p 0 KC ∧ Row W' q10 0 (BY.map (Value.int .u8)) ∧ Row W' q11 0 K2.cells ∧ Row W' (p + 1) 0 K0.cells ∧ q13 < W'.heap.size ∧ ∃ Z : List Value, Z.length = 32 ∧ Row W' q13 0 Z) W)) 8 (by kernel_rfl) (by kernel_rfl) ?_ (fun hHeld => ?_)
    focus exact Lib.hid ⟨keeps_drew1 HKW.out, HR.out.drew, HR10.out.drew, HR11.out.drew, HRZ.out.drew, hW18, Z13, hZ13, HR13.out.drew⟩
    refine lt 0 (hx := by intro wSw hSw; (have hSw := hSw.out); (refine cu_run_load 30 (.tmp 2) ?_ p 0 ?_ _ _ hSw.2.1 Tryd.underlying30 rfl ZK.out) <;> rfl) (h := ?_)
    refine lt 2 (hx := by intro wSw hSw; (have hSw := hSw.out); (refine cu_run_load 24 (.tmp 10) ?_ q10 0 ?_ _ _ hSw.2.2.1 Tryd.underlying24 rfl (by rw [List.length_map, lBY]; exact sz_b32')) <;> rfl) (h := ?_)
    refine wpAnyHL_one (i := 1) (o := ?_) (by kernel_rfl) (by kernel_rfl) ?_ ?_
    rotate_left 1
    focus (simp only [kG]; exact rfl)
    go_wp2_with (go_at_call 20; refine (HSE.out _).mono ?_; rintro r W5 ⟨rfl, hk5⟩; have HK5 := Lib.hid hk5; clear hk5)
    try dsimp only [StepQ]
    refine ⟨?_, fun hHeld => ?_⟩
    focus (exact Lib.hid (⟨hHeld.out.1.trans HK5.out, hHeld.out.2.1.keeps HK5.out, hHeld.out.2.2.1.keeps HK5.out, hHeld.out.2.2.2.1.keeps HK5.out, hHeld.out.2.2.2.2.1.keeps HK5.out, Nat.lt_of_lt_of_le hHeld.out.2.2.2.2.2.1 HK5.out.size, hHeld.out.2.2.2.2.2.2.imp (fun _ h => ⟨h.1, h.2.keeps HK5.out⟩)⟩))
    try simp only [kP]
    refine wpAnyHL_one (i := 3) (o := ?_) (by kernel_rfl) (by kernel_rfl) ?_ ?_
    rotate_left 1
    focus (simp only [kG]; exact rfl)
    go_wp2_with (go_at_call 24; refine (HAK.out _).mono ?_; rintro r W5 ⟨rfl, hk5⟩; have HK5 := Lib.hid hk5; clear hk5)
    try dsimp only [StepQ]
    refine ⟨?_, fun hHeld => ?_⟩
    focus (exact Lib.hid (⟨hHeld.out.1.trans HK5.out, hHeld.out.2.1.keeps HK5.out, hHeld.out.2.2.1.keeps HK5.out, hHeld.out.2.2.2.1.keeps HK5.out, hHeld.out.2.2.2.2.1.keeps HK5.out, Nat.lt_of_lt_of_le hHeld.out.2.2.2.2.2.1 HK5.out.size, hHeld.out.2.2.2.2.2.2.imp (fun _ h => ⟨h.1, h.2.keeps HK5.out⟩)⟩))
    try simp only [kP]
    refine lt 4 (h := ?_)
    refine lt 5 (h := ?_)
    refine lt 6 (h := ?_)
    obtain ⟨Z2, hZ2, hrz2⟩ := hHeld.out.2.2.2.2.2.2
    have HRZ3 := Lib.hid hrz2
    clear hrz2
    refine wpAnyHL_one (i := 7) (o := ?_) (by kernel_rfl) (by kernel_rfl) ?_ ?_
    rotate_left 1
    focus (simp only [kG]; exact rfl)
    go_wp2_with (refine ws HRZ3.out lAK (by rw [hZ2]) (h := ?_); intro w9 hr9 hc9; have H9 := Lib.hid hr9; have HC9 := Lib.hid hc9; clear hr9 hc9)
    try dsimp only [StepQ]
    refine ⟨?_, fun hHeld => ?_⟩
    focus (exact Lib.hid (⟨nm_keeps_chg hHeld.out.1 HC9.out (by omega), hHeld.out.2.1.chg HC9.out (by omega), hHeld.out.2.2.1.chg HC9.out (by omega), hHeld.out.2.2.2.1.chg HC9.out (by omega), hHeld.out.2.2.2.2.1.chg HC9.out (by omega), Nat.lt_of_lt_of_le hHeld.out.2.2.2.2.2.1 HC9.out.size, _, by rw [List.length_map, lAK], H9.out⟩))
    try simp only [kP]
    refine wpAnyHL_done (by kernel_rfl) ?_
    try simp only [List.drop_succ_cons, List.drop_zero]
    go_upto_region 19 with (fail)
    refine wp_gen (fun W => Keeps w W ∧ Row W q11 0 K2.cells ∧ Row W (p + 1) 0 K0.cells ∧ Row W q13 0 (AK.1.map (Value.int .u8)) ∧ q13 < W.heap.size) ⟨hHeld.out.1, hHeld.out.2.2.2.1, hHeld.out.2.2.2.2.1, H9.out, hHeld.out.2.2.2.2.2.1⟩ ?_
    clear hHeld H9 HC9 HRZ3 HR HRZ HR10 HR11 HR13 HKW hW18
    rintro W19 ⟨hk, hr, hr2, hr3, hW19⟩
    have HKW := Lib.hid hk; have HR11 := Lib.hid hr; have HRZ := Lib.hid hr2; have HR13 := Lib.hid hr3
    clear hk hr hr2 hr3
    have HPD := Lib.hid (show K2.cells.take 39 ++ AK.1.map (Value.int .u8) ++ K2.cells.drop (39 + 32) = (KD.mk (k.d + 1) FG n CC 0 AK.1).cells by rw [← HK2.out]; exact kid_data _ hFGl lCC _ rfl lAK)
    refine wp_region_quiet_tail 3 (by kernel_rfl) (by kernel_rfl) ?_
    simp only [List.take_succ_cons, List.take_zero, List.drop_succ_cons, List.drop_zero]
    repeat (first | go_big_quiet_step (fail) | quiet_step (fail))
    refine wpQuiet_nil ?_
    intro _ hw'
    obtain ⟨nq, hw''⟩ := hw'
    subst hw''
    refine hk_copy rfl (.tmp 79) (.tmp 80) rfl q11 39 32 32 rfl (some ⟨q13, 0, none⟩) 32 32 rfl (Nat.le_refl _) K2.cells (HR11.out.drewN nq) (by rw [lK2]; omega) (AK.1.map (Value.int .u8)) (Rd.of_row (HR13.out.drewN nq) (by rw [List.length_map, lAK]) (by show q13 < W19.heap.size; omega) (Nat.le_refl _) (by unfold maxLen; omega)) (int_oneCell _) (fun W20 hr6 hc6 => ?_)
    rw [HPD.out] at hr6
    have HR11 := Lib.hid hr6
    have HRZ := Lib.hid ((HRZ.out.drewN nq).chg hc6 (by omega)); have HKW := Lib.hid (nm_keeps_chg (HKW.out.trans (Qt.drewN W19 nq).keeps) hc6 (by omega))
    clear hr6 hc6 HPD HR13
    have hcb := HCB0.out hx
    have lK3 : (KD.mk (k.d + 1) FG n CC 0 AK.1).cells.length = 71 := keyCells_length hFGl lCC (by simp [lAK])
    have SK3 := Lib.hid (show (Tryd.prog.info? 30).map (·.size) = some (KD.mk (k.d + 1) FG n CC 0 AK.1).cells.length from sz_hkey hFGl lCC (by simp [lAK]))
    have ON3 := Lib.hid (KD.mk (k.d + 1) FG n CC 0 AK.1).one
    have Z0 := Lib.hid K0_ok.sz
    by_cases he : AK.2 = 0
    · obtain rfl : ST = (KD.mk (k.d + 1) FG n CC 0 AK.1, 0) := by
        rw [HST1.out (by rw [hcb]; exact he), hcb]; rfl
      have hne : (AK.2 != 0) = false := by rw [he]; rfl
      clear hcb HST1 HST2 HCB0 HCB1 HK2
      go_wp2_with (first | (refine wpList_load_at rfl 30 (.tmp 11) rfl q11 0 rfl _ _ HR11.out Tryd.underlying30 rfl SK3.out ?_) | (refine wpList_store_row rfl 30 (.tmp 4) (.tmp 93) rfl (p + 1) 0 rfl K0.cells (KD.mk (k.d + 1) FG n CC 0 AK.1).cells rfl HRZ.out (by rw [lK3]; rfl) SK3.out ON3.out ?_; intro w9 hr9 hc9; have H9 := Lib.hid hr9; have HC9 := Lib.hid hc9; clear hr9 hc9))
      exact bodyPost_ret (results_cell_tmpB (p := 4) (t := 5) (ty := 30) rfl _ _ (p + 1) 0 _ _ _ rfl rfl H9.out Tryd.underlying30 rfl SK3.out) rfl ⟨rfl, nm_keeps_chg HKW.out HC9.out (by omega)⟩
    · obtain rfl : ST = (K0, 7) := HST2.out (by rw [hcb]; exact he)
      have hne : (AK.2 != 0) = true := by rw [bne_iff_ne]; exact he
      clear hcb HST1 HST2 HCB0 HCB1
      go_wp2_with (first | (refine cu_build (by kernel_rfl) 30 _ rfl [] ?_ _ built_none ?_; focus rfl) | (refine wpList_store_row rfl 30 (.tmp 4) (.tmp 92) rfl (p + 1) 0 rfl K0.cells K0.cells rfl HRZ.out rfl Z0.out K0.one ?_; intro w9 hr9 hc9; have H9 := Lib.hid hr9; have HC9 := Lib.hid hc9; clear hr9 hc9))
      exact bodyPost_ret (results_cell_tmpB (p := 4) (t := 5) (ty := 30) rfl _ _ (p + 1) 0 _ _ _ rfl rfl H9.out Tryd.underlying30 rfl Z0.out) rfl ⟨rfl, nm_keeps_chg HKW.out HC9.out (by omega)⟩
  · exact absurd hmd (by omega)
set_option maxRecDepth 100000 in
set_option maxHeartbeats 16000000 in
theorem step_priv (k : KD) (h : k.ok) (n : Int) (h0 : 0 ≤ n) (h1 : n < 4294967296) (hg : goodV k.x k.z = true) (hd : ¬ k.d = 255) (hh : ¬ (2147483648 ≤ n ∧ ¬ k.x = 0)) (hmd : ¬ 2147483648 ≤ n) (hx : k.x = 0) (w : World) :
    Calls Tryd.prog 12 #[.agg k.cells.toArray, .int .u32 n] w fun e w' => e = .returned (.tuple #[.agg (stepV k n).1.cells.toArray, .int .i64 (stepV k n).2]) ∧ Keeps w w' := by
  have hpr : pointR k = (pointV k.x k.z, 0) := by unfold pointR; rw [if_pos hg]
  have hpt0 := fun W => point_k k h W
  rw [hpr] at hpt0
  dsimp only at hpt0
  have HPT := Lib.hid hpt0
  clear hpt0 hpr
  have HPR := Lib.hid (fun W => private_k k h W)
  have hpl := pointV_len h
  have hpb := pointV_bytes h
  have hkl := h.len
  have ZK := Lib.hid h.sz
  have R38 := Lib.hid (fun (W : World) (p : Nat) (hr : Row W p 0 k.cells) => h.row38 hr)
  have RWS := Lib.hid (fun (W : World) (p : Nat) (hr : Row W p 0 k.cells) => h.rows hr)
  have HFOUR := Lib.hid (fun W => four_any n h0 h1 W)
  have lF4 : (four n).length = 4 := rfl
  have bF4 := four_bytes h0 h1
  have hdl := h.dl
  have hdb := h.db
  have hcl := h.cl
  have hcb := h.cb
  have hchH := childH_len k n
  obtain ⟨FR, hFR, hfl, hfb⟩ : ∃ FR, FR = (if 2147483648 ≤ n then k.x :: k.z else pointV k.x k.z) ∧ FR.length = 33 ∧ Bytes FR := by
    by_cases hn : 2147483648 ≤ n
    · exact ⟨_, rfl, by rw [if_pos hn]; exact hdl, by rw [if_pos hn]; exact hdb⟩
    · exact ⟨_, rfl, by rw [if_neg hn]; exact hpl, by rw [if_neg hn]; exact hpb⟩
  have hch : B64.hmac k.cc (FR ++ four n) = childH k n := by unfold childH; rw [hFR]
  have HHM0 := Lib.hid (fun (kv bv : Value) (W : World) (hk : Rd W 1 kv 32 (k.cc.map (Value.int .u8))) (hb : Rd W 1 bv 37 ((FR ++ four n).map (Value.int .u8))) => B64.hmac_any kv bv 32 37 k.cc (FR ++ four n) W hk hcb (by omega) hb (fun y hy => by rcases List.mem_append.1 hy with e | e; exact hfb y e; exact bF4 y e) (by omega))
  rw [hch] at HHM0
  have hst1 : (childB k n).2 = 0 → stepV k n = (⟨k.d + 1, fingerV k, n, (childH k n).drop 32, (childB k n).1.headD 0, (childB k n).1.drop 1⟩, 0) := fun e => by
    unfold stepV; rw [if_pos hg, if_neg hd, if_neg hh, if_pos e]
  have hst2 : ¬ (childB k n).2 = 0 → stepV k n = (K0, 7) := fun e => by
    unfold stepV; rw [if_pos hg, if_neg hd, if_neg hh, if_neg e]
  have hcb0 : k.x = 0 → childB k n = (0 :: (addKV (be k.z) (be ((childH k n).take 32))).1, (addKV (be k.z) (be ((childH k n).take 32))).2) := fun e => by unfold childB; rw [if_pos e]
  have hcb1 : ¬ k.x = 0 → childB k n = addPV (k.x :: k.z) (be ((childH k n).take 32)) := fun e => by unfold childB; rw [if_neg e]
  have hbyb : Bytes ((childH k n).take 32) := fun y hy => childH_bytes k n y (List.mem_of_mem_take hy)
  have HAK := Lib.hid (fun W => addkey_any k.z ((childH k n).take 32) h.zb hbyb h.zl (by rw [List.length_take, hchH]; rfl) W)
  have HAP := Lib.hid (fun W => addpub_any (k.x :: k.z) ((childH k n).take 32) hdb hbyb hdl (by rw [List.length_take, hchH]; rfl) W)
  have lAK := addKV_len (be k.z) (be ((childH k n).take 32))
  have lAP := addPV_len (k.x :: k.z) (be ((childH k n).take 32))
  have HSE := Lib.hid (fun W => secret_k k h W)
  have hzl := h.zl
  have HH160 := Lib.hid (fun (v : Value) W (hv : Rd W 1 v 33 ((pointV k.x k.z).map (Value.int .u8))) => Rip.hash160_any v 33 (pointV k.x k.z) W hv hpb (by omega))
  have l20 := Rip.rip160_length (sha256 (pointV k.x k.z))
  have hfin : fingerV k = (Rip.rip160 (sha256 (pointV k.x k.z))).take 4 := rfl
  generalize Rip.rip160 (sha256 (pointV k.x k.z)) = F20 at *
  generalize fingerV k = FG at *
  generalize addKV (be k.z) (be ((childH k n).take 32)) = AK at *
  generalize addPV (k.x :: k.z) (be ((childH k n).take 32)) = AP at *
  generalize childB k n = CB at *
  obtain ⟨a0, az, hap⟩ : ∃ a0 az, AP.1 = a0 :: az := by cases hA : AP.1 with | nil => rw [hA] at lAP; cases lAP | cons a l => exact ⟨a, l, rfl⟩
  have HAPE := Lib.hid hap; clear hap
  generalize childH k n = CH at *
  generalize four n = F4 at *
  generalize pointV k.x k.z = PV at *
  have hmode : (2147483648 ≤ n ∧ FR = k.x :: k.z) ∨ (¬ 2147483648 ≤ n ∧ FR = PV) := by
    by_cases hn : 2147483648 ≤ n
    · exact .inl ⟨hn, by rw [hFR, if_pos hn]⟩
    · exact .inr ⟨hn, by rw [hFR, if_neg hn]⟩
  clear hFR hch
  have HMODE := Lib.hid hmode
  have hx0 : 2147483648 ≤ n → k.x = 0 := fun hn => Classical.byContradiction fun e => hh ⟨hn, e⟩
  generalize k.cells = KC at *
  generalize stepV k n = ST at *
  have HST1 := Lib.hid hst1; have HST2 := Lib.hid hst2; have HCB0 := Lib.hid hcb0; have HCB1 := Lib.hid hcb1; have HFIN := Lib.hid hfin
  clear hmode hst1 hst2 hcb0 hcb1 hfin
  have hd2 : (k.d == 255) = false := by rw [beq_eq_false_iff_ne]; exact hd
  go_enter Tryd.func12, Tryd.ntmps12
  go_upto_region 1 with (fail)
  refine cu_rows2 (fun W hk hr hr2 hs => ?_)
  obtain ⟨p, hp⟩ : ∃ p, p = w.heap.size := ⟨_, rfl⟩
  rw [← hp] at hr hr2 hs ⊢
  have hkp : w.heap.size ≤ p := by omega
  have HR := Lib.hid (show Row W p 0 KC from by simpa using hr); have HK := Lib.hid hk
  have HRZ := Lib.hid (show Row W (p + 1) 0 K0.cells from hr2)
  have hps : p + 1 < W.heap.size := by omega
  clear hp hk hr hr2 hs
  go_upto_region 2 with (first | (refine wpList_load_at rfl 30 (.tmp 2) rfl p 0 rfl _ _ HR.out Tryd.underlying30 rfl ZK.out ?_) | (go_at_call 13; refine (HPT.out _).mono ?_; rintro e W1 ⟨rfl, hk1⟩; have HK1 := Lib.hid hk1; clear hk1) | (refine ws (g := W1.heap.size) (olds := (zeroL33.map (Value.int .u8))) (Row.new _ _ _ rfl) hpl rfl (h := ?_); intro W6 hr2 hc2; have HR6 := Lib.hid hr2; have HK3 := Lib.hid (nm_keeps_chg (nm_keeps_alloc HK1.out _) hc2 HK1.out.size); clear hr2 hc2))
  have HRZ := Lib.hid (HRZ.out.keeps HK3.out); have HR := Lib.hid (HR.out.keeps HK3.out); have HKW := Lib.hid (HK.out.trans HK3.out)
  have hpq : p + 1 < W1.heap.size := Nat.lt_of_lt_of_le hps HK1.out.size
  generalize W1.heap.size = q6 at *
  have hqW : q6 < W6.heap.size := HR6.out.lt (map_ne hpl)
  clear HK HK1 HK3
  obtain ⟨c0, r1, c5, r6⟩ := RWS.out _ _ HR.out
  have R6 := Lib.hid r6; have C0 := Lib.hid c0
  clear r1 r6 c5
  rcases HMODE.out with ⟨hn, hFR⟩ | ⟨hn, hFR⟩
  · exact absurd hn (by omega)
  · skip
    clear hx0
    have hge : decide (2147483648 ≤ n) = false := decide_eq_false (by omega)
    clear hn hmd
    go_upto_region 11 with (fail)
    refine wp_gen (fun W => Keeps w W ∧ Row W p 0 KC ∧ Row W (p + 1) 0 K0.cells ∧ Row W q6 0 (PV.map (Value.int .u8)) ∧ Row W p 6 (k.cc.map (Value.int .u8)) ∧ q6 < W.heap.size) ⟨HKW.out, HR.out, HRZ.out, HR6.out, R6.out, hqW⟩ ?_
    clear HR HRZ HKW HR6 R6 C0 hqW c0
    rintro W6 ⟨hk, hr, hr2, hr3, hr4, hqW⟩
    have HKW := Lib.hid hk; have HR := Lib.hid hr; have HRZ := Lib.hid hr2; have HR6 := Lib.hid hr3; have R6 := Lib.hid hr4
    clear hk hr hr2 hr3 hr4
    have hcc : (k.cc.map (Value.int .u8)).length = 32 := by rw [List.length_map, hcl]
    have HHM := Lib.hid (fun bv W (hk : Keeps W6 W) (hb : Rd W 1 bv 37 ((FR ++ F4).map (Value.int .u8))) => HHM0.out (.slice (some ⟨p, 6, none⟩) 32 32) bv W (Rd.of_row (R6.out.keeps hk) (by rw [hcc]) (by have := hk.size; omega) (Nat.le_refl _) (by unfold maxLen; omega)) hb)
    have HSRC := Lib.hid (fun W (hk : Keeps W6 W) => show Src Tryd.prog 1 38 (.slice (some ⟨q6, 0, none⟩) 33 33) 33 (FR.map (Value.int .u8)) W from Src.row Tryd.underlying38 (by rw [List.length_map, hfl]) (by rw [hFR]; exact HR6.out.keeps hk) (int_oneCell _))
    rename_i K1 hK1
    refine wp_join2 [9, 43, 44, 45, 46, 47, 48, 49, 50, 51] (fun us W => ∃ q9, us.getD 0 undef = .pointer (some ⟨q9, 0, none⟩) ∧ Keeps W6 W ∧ Row W q9 0 (CH.map (Value.int .u8)) ∧ W6.heap.size ≤ q9) hK1 (fun key0 => ?_) ?_
    focus
      have key := fun u1 u2 u3 u4 u5 u6 u7 u8 u9 u10 w' => key0 [u1, u2, u3, u4, u5, u6, u7, u8, u9, u10] w' rfl
      clear key0 hK1
      simp only [putAll, kP] at key
      have KEY := Lib.hid key
      clear key
      refine wp_region_head (S := fun W => Hid ((fun W => Keeps W6 W) W)) 10 (by kernel_rfl) (by kernel_rfl) ?_ (fun hHeld => ?_)
      focus exact Lib.hid (keeps_drew1 (Keeps.refl _))
      refine lt 0 (h := ?_)
      refine lt 1 (h := ?_)
      refine lt 3 (h := ?_)
      refine lt 5 (h := ?_)
      refine hl_gen (fun W => Keeps W6 W) hHeld.out ?_
      intro W hk
      have HK := Lib.hid hk; clear hk hHeld
      have hHeld : Hid (Keeps W6 W) := HK
      refine wpAnyHL_two (i := 2) (j := 9) (by kernel_rfl) (by kernel_rfl) (h := ?_) (h' := ?_)
      · skip
        go_wp2
        try dsimp only [StepQ]
        refine ⟨?_, fun hHeld => ?_⟩
        focus (exact Lib.hid (nm_keeps_alloc HK.out _))
        try simp only [kP]
        obtain ⟨v0, hv0⟩ : ∃ v0, v0 = Value.slice (some ⟨W.heap.size, 0, none⟩) 0 0 := ⟨_, rfl⟩
        rw [← hv0]
        have HV0 := Lib.hid hv0; clear hv0
        refine hl_gen (fun W => Keeps W6 W ∧ Own W6 W v0 0 []) ⟨nm_keeps_alloc HK.out _, by rw [HV0.out]; exact own_made HK.out _⟩ ?_
        rintro W ⟨hk, ho⟩
        have HK := Lib.hid hk; have HO := Lib.hid ho; clear hk ho
        have hHeld : Hid (Keeps W6 W) := HK
        refine wpAnyHL_two (i := 4) (j := 9) (by kernel_rfl) (by kernel_rfl) (h := ?_) (h' := ?_)
        · skip
          go_wp2_with (refine own_append rfl (.tmp 45) (.tmp 46) rfl HO.out (Keeps.refl _) rfl _ rfl 33 FR (HSRC.out _ HK.out) (by omega) ?_; intro v1 w1 ho1 hg1; have HO1 := Lib.hid ho1; have HG1 := Lib.hid hg1; clear ho1 hg1)
          try dsimp only [StepQ]
          refine ⟨?_, fun hHeld => ?_⟩
          focus (exact Lib.hid (HO1.out.keeps))
          try simp only [kP]
          refine hl_gen (fun W => Keeps W6 W ∧ Own W6 W v1 33 FR) ⟨HO1.out.keeps, by have := HO1.out; rwa [List.nil_append] at this⟩ ?_
          rintro W ⟨hk, ho⟩
          have HK := Lib.hid hk; have HO := Lib.hid ho; clear hk ho
          have hHeld : Hid (Keeps W6 W) := HK
          refine wpAnyHL_two (i := 6) (j := 9) (by kernel_rfl) (by kernel_rfl) (h := ?_) (h' := ?_)
          · skip
            go_wp2_with (go_at_call 22; refine (HFOUR.out _).mono ?_; rintro r w2 ⟨g4, rfl, hk2, hge2, hlt2, hr2⟩; have HK2 := Lib.hid hk2; have HR2 := Lib.hid hr2; clear hk2 hr2)
            try dsimp only [StepQ]
            refine ⟨?_, fun hHeld => ?_⟩
            focus (exact Lib.hid (HK.out.trans HK2.out))
            try simp only [kP]
            refine hl_gen (fun W => Keeps W6 W ∧ Own W6 W v1 33 FR ∧ (g4 < W.heap.size ∧ Row W g4 0 (F4.map (Value.int .u8)) ∧ v1.ownBlock ≠ some g4)) ⟨HK.out.trans HK2.out, HO.out.step HK2.out, ⟨hlt2, HR2.out, fun e => by have := HO.out.buf.lt e; omega⟩⟩ ?_
            rintro W ⟨hk, ho, hf⟩
            have HK := Lib.hid hk; have HO := Lib.hid ho; have HF := Lib.hid hf; clear hk ho hf
            have hHeld : Hid (Keeps W6 W) := HK
            refine wpAnyHL_two (i := 7) (j := 9) (by kernel_rfl) (by kernel_rfl) (h := ?_) (h' := ?_)
            · skip
              go_wp2_with (refine own_append rfl (.tmp 47) (.tmp 49) rfl HO.out (Keeps.refl _) rfl _ rfl 4 F4 (Src.row Tryd.underlying38 (by simp [lF4]) HF.out.2.1 (int_oneCell _)) (by omega) ?_; intro v2 w3 ho1 hg1; have HO1 := Lib.hid ho1; have HG1 := Lib.hid hg1; clear ho1 hg1)
              try dsimp only [StepQ]
              refine ⟨?_, fun hHeld => ?_⟩
              focus (exact Lib.hid (HO1.out.keeps))
              try simp only [kP]
              refine hl_gen (fun W => Keeps W6 W ∧ Own W6 W v2 37 (FR ++ F4)) ⟨HO1.out.keeps, HO1.out⟩ ?_
              rintro W ⟨hk, ho⟩
              have HK := Lib.hid hk; have HO := Lib.hid ho; clear hk ho
              have hHeld : Hid (Keeps W6 W) := HK
              refine wpAnyHL_two (i := 8) (j := 9) (by kernel_rfl) (by kernel_rfl) (h := ?_) (h' := ?_)
              · skip
                go_wp2_with (go_at_call 14; refine (HHM.out _ _ HK.out HO.out.rd).mono ?_; rintro r w4 ⟨rfl, hk2⟩; have HK2 := Lib.hid hk2; clear hk2)
                try dsimp only [StepQ]
                refine ⟨?_, fun hHeld => ?_⟩
                focus (exact Lib.hid (HK.out.trans HK2.out))
                try simp only [kP]
                refine hl_gen (fun W => Keeps W6 W) (HK.out.trans HK2.out) ?_
                rintro W hk
                have HK := Lib.hid hk; clear hk
                have hHeld : Hid (Keeps W6 W) := HK
                refine wpAnyHL_one (i := 9) (o := ?_) (by kernel_rfl) (by kernel_rfl) ?_ ?_
                rotate_left 1
                focus (simp only [kG]; exact rfl)
                go_wp2
                try dsimp only [StepQ]
                refine ⟨?_, fun hHeld => ?_⟩
                focus (exact Lib.hid (nm_keeps_alloc HK.out _))
                try simp only [kP]
                obtain ⟨q9, hq9⟩ : ∃ q9, q9 = W.heap.size := ⟨_, rfl⟩
                rw [← hq9]
                have HQ9 := Lib.hid hq9; clear hq9
                refine hl_gen (fun W => Keeps W6 W ∧ HdAlong W6 W q9 (zeroL64k.map (Value.int .u8)) (.slice none 0 0)) ⟨nm_keeps_alloc HK.out _, by rw [HQ9.out]; exact HdAlong.new HK.out (own_none HK.out) (zeroL64k.map (Value.int .u8)) _ rfl _⟩ ?_
                rintro W ⟨hk, ha⟩
                have HK := Lib.hid hk; have HA := Lib.hid ha; clear hk ha
                have hHeld : Hid (Keeps W6 W) := HK
                refine wpAnyHL_done (by kernel_rfl) ?_
                try simp only [List.drop_succ_cons, List.drop_zero]
                go_wp2_with (refine ws (g := q9) (olds := (zeroL64k.map (Value.int .u8))) HA.out.row hchH rfl (h := ?_); intro w5 hr5 hc5; have HR5 := Lib.hid hr5; have HC5 := Lib.hid hc5; clear hr5 hc5)
                refine KEY.out _ _ _ _ _ _ _ _ _ _ _ ?_
                exact ⟨q9, rfl, nm_keeps_chg HK.out HC5.out HA.out.ge, HR5.out, HA.out.ge⟩
              · skip
                go_wp2
                try dsimp only [StepQ]
                refine ⟨?_, fun hHeld => ?_⟩
                focus (exact Lib.hid (nm_keeps_alloc HK.out _))
                try simp only [kP]
                obtain ⟨q9, hq9⟩ : ∃ q9, q9 = W.heap.size := ⟨_, rfl⟩
                rw [← hq9]
                have HQ9 := Lib.hid hq9; clear hq9
                refine hl_gen (fun W => Keeps W6 W ∧ Own W6 W v2 37 (FR ++ F4) ∧ HdAlong W6 W q9 (zeroL64k.map (Value.int .u8)) v2) ⟨nm_keeps_alloc HK.out _, HO.out.step (nm_keeps_alloc (Keeps.refl W) _), by rw [HQ9.out]; exact HdAlong.new HK.out (HO.out) (zeroL64k.map (Value.int .u8)) _ rfl _⟩ ?_
                rintro W ⟨hk, ho, ha⟩
                have HK := Lib.hid hk; have HO := Lib.hid ho; have HA := Lib.hid ha; clear hk ho ha
                have hHeld : Hid (Keeps W6 W) := HK
                refine wpAnyHL_one (i := 8) (o := ?_) (by kernel_rfl) (by kernel_rfl) ?_ ?_
                rotate_left 1
                focus (simp only [kG]; exact rfl)
                go_wp2_with (go_at_call 14; refine (HHM.out _ _ HK.out HO.out.rd).mono ?_; rintro r w4 ⟨rfl, hk2⟩; have HK2 := Lib.hid hk2; clear hk2)
                try dsimp only [StepQ]
                refine ⟨?_, fun hHeld => ?_⟩
                focus (exact Lib.hid (HK.out.trans HK2.out))
                try simp only [kP]
                refine hl_gen (fun W => Keeps W6 W ∧ HdAlong W6 W q9 (zeroL64k.map (Value.int .u8)) (.slice none 0 0)) ⟨HK.out.trans HK2.out, ⟨(HA.out.keeps HK2.out).row, HA.out.ge, (HA.out.keeps HK2.out).lt, by simp [Value.ownBlock]⟩⟩ ?_
                rintro W ⟨hk, ha⟩
                have HK := Lib.hid hk; have HA := Lib.hid ha; clear hk ha
                have hHeld : Hid (Keeps W6 W) := HK
                refine wpAnyHL_done (by kernel_rfl) ?_
                try simp only [List.drop_succ_cons, List.drop_zero]
                go_wp2_with (refine ws (g := q9) (olds := (zeroL64k.map (Value.int .u8))) HA.out.row hchH rfl (h := ?_); intro w5 hr5 hc5; have HR5 := Lib.hid hr5; have HC5 := Lib.hid hc5; clear hr5 hc5)
                refine KEY.out _ _ _ _ _ _ _ _ _ _ _ ?_
                exact ⟨q9, rfl, nm_keeps_chg HK.out HC5.out HA.out.ge, HR5.out, HA.out.ge⟩
            · skip
              go_wp2
              try dsimp only [StepQ]
              refine ⟨?_, fun hHeld => ?_⟩
              focus (exact Lib.hid (nm_keeps_alloc HK.out _))
              try simp only [kP]
              obtain ⟨q9, hq9⟩ : ∃ q9, q9 = W.heap.size := ⟨_, rfl⟩
              rw [← hq9]
              have HQ9 := Lib.hid hq9; clear hq9
              refine hl_gen (fun W => Keeps W6 W ∧ Own W6 W v1 33 FR ∧ (g4 < W.heap.size ∧ Row W g4 0 (F4.map (Value.int .u8)) ∧ v1.ownBlock ≠ some g4) ∧ HdAlong W6 W q9 (zeroL64k.map (Value.int .u8)) v1) ⟨nm_keeps_alloc HK.out _, HO.out.step (nm_keeps_alloc (Keeps.refl W) _), ⟨by have := HF.out.1; simp; omega, HF.out.2.1.alloc _, HF.out.2.2⟩, by rw [HQ9.out]; exact HdAlong.new HK.out (HO.out) (zeroL64k.map (Value.int .u8)) _ rfl _⟩ ?_
              rintro W ⟨hk, ho, hf, ha⟩
              have HK := Lib.hid hk; have HO := Lib.hid ho; have HF := Lib.hid hf; have HA := Lib.hid ha; clear hk ho hf ha
              have hHeld : Hid (Keeps W6 W) := HK
              refine wpAnyHL_one (i := 7) (o := ?_) (by kernel_rfl) (by kernel_rfl) ?_ ?_
              rotate_left 1
              focus (simp only [kG]; exact rfl)
              go_wp2_with (refine own_append rfl (.tmp 47) (.tmp 49) rfl HO.out (Keeps.refl _) rfl _ rfl 4 F4 (Src.row Tryd.underlying38 (by simp [lF4]) HF.out.2.1 (int_oneCell _)) (by omega) ?_; intro v2 w3 ho1 hg1; have HO1 := Lib.hid ho1; have HG1 := Lib.hid hg1; clear ho1 hg1)
              try dsimp only [StepQ]
              refine ⟨?_, fun hHeld => ?_⟩
              focus (exact Lib.hid (HO1.out.keeps))
              try simp only [kP]
              refine hl_gen (fun W => Keeps W6 W ∧ Own W6 W v2 37 (FR ++ F4) ∧ HdAlong W6 W q9 (zeroL64k.map (Value.int .u8)) v2) ⟨HO1.out.keeps, HO1.out, HA.out.grown HG1.out⟩ ?_
              rintro W ⟨hk, ho, ha⟩
              have HK := Lib.hid hk; have HO := Lib.hid ho; have HA := Lib.hid ha; clear hk ho ha
              have hHeld : Hid (Keeps W6 W) := HK
              refine wpAnyHL_one (i := 8) (o := ?_) (by kernel_rfl) (by kernel_rfl) ?_ ?_
              rotate_left 1
              focus (simp only [kG]; exact rfl)
              go_wp2_with (go_at_call 14; refine (HHM.out _ _ HK.out HO.out.rd).mono ?_; rintro r w4 ⟨rfl, hk2⟩; have HK2 := Lib.hid hk2; clear hk2)
              try dsimp only [StepQ]
              refine ⟨?_, fun hHeld => ?_⟩
              focus (exact Lib.hid (HK.out.trans HK2.out))
              try simp only [kP]
              refine hl_gen (fun W => Keeps W6 W ∧ HdAlong W6 W q9 (zeroL64k.map (Value.int .u8)) (.slice none 0 0)) ⟨HK.out.trans HK2.out, ⟨(HA.out.keeps HK2.out).row, HA.out.ge, (HA.out.keeps HK2.out).lt, by simp [Value.ownBlock]⟩⟩ ?_
              rintro W ⟨hk, ha⟩
              have HK := Lib.hid hk; have HA := Lib.hid ha; clear hk ha
              have hHeld : Hid (Keeps W6 W) := HK
              refine wpAnyHL_done (by kernel_rfl) ?_
              try simp only [List.drop_succ_cons, List.drop_zero]
              go_wp2_with (refine ws (g := q9) (olds := (zeroL64k.map (Value.int .u8))) HA.out.row hchH rfl (h := ?_); intro w5 hr5 hc5; have HR5 := Lib.hid hr5; have HC5 := Lib.hid hc5; clear hr5 hc5)
              refine KEY.out _ _ _ _ _ _ _ _ _ _ _ ?_
              exact ⟨q9, rfl, nm_keeps_chg HK.out HC5.out HA.out.ge, HR5.out, HA.out.ge⟩
          · skip
            go_wp2
            try dsimp only [StepQ]
            refine ⟨?_, fun hHeld => ?_⟩
            focus (exact Lib.hid (nm_keeps_alloc HK.out _))
            try simp only [kP]
            obtain ⟨q9, hq9⟩ : ∃ q9, q9 = W.heap.size := ⟨_, rfl⟩
            rw [← hq9]
            have HQ9 := Lib.hid hq9; clear hq9
            refine hl_gen (fun W => Keeps W6 W ∧ Own W6 W v1 33 FR ∧ HdAlong W6 W q9 (zeroL64k.map (Value.int .u8)) v1) ⟨nm_keeps_alloc HK.out _, HO.out.step (nm_keeps_alloc (Keeps.refl W) _), by rw [HQ9.out]; exact HdAlong.new HK.out (HO.out) (zeroL64k.map (Value.int .u8)) _ rfl _⟩ ?_
            rintro W ⟨hk, ho, ha⟩
            have HK := Lib.hid hk; have HO := Lib.hid ho; have HA := Lib.hid ha; clear hk ho ha
            have hHeld : Hid (Keeps W6 W) := HK
            refine wpAnyHL_one (i := 6) (o := ?_) (by kernel_rfl) (by kernel_rfl) ?_ ?_
            rotate_left 1
            focus (simp only [kG]; exact rfl)
            go_wp2_with (go_at_call 22; refine (HFOUR.out _).mono ?_; rintro r w2 ⟨g4, rfl, hk2, hge2, hlt2, hr2⟩; have HK2 := Lib.hid hk2; have HR2 := Lib.hid hr2; clear hk2 hr2)
            try dsimp only [StepQ]
            refine ⟨?_, fun hHeld => ?_⟩
            focus (exact Lib.hid (HK.out.trans HK2.out))
            try simp only [kP]
            refine hl_gen (fun W => Keeps W6 W ∧ Own W6 W v1 33 FR ∧ (g4 < W.heap.size ∧ Row W g4 0 (F4.map (Value.int .u8)) ∧ v1.ownBlock ≠ some g4) ∧ HdAlong W6 W q9 (zeroL64k.map (Value.int .u8)) v1) ⟨HK.out.trans HK2.out, HO.out.step HK2.out, ⟨hlt2, HR2.out, fun e => by have := HO.out.buf.lt e; omega⟩, HA.out.keeps HK2.out⟩ ?_
            rintro W ⟨hk, ho, hf, ha⟩
            have HK := Lib.hid hk; have HO := Lib.hid ho; have HF := Lib.hid hf; have HA := Lib.hid ha; clear hk ho hf ha
            have hHeld : Hid (Keeps W6 W) := HK
            refine wpAnyHL_one (i := 7) (o := ?_) (by kernel_rfl) (by kernel_rfl) ?_ ?_
            rotate_left 1
            focus (simp only [kG]; exact rfl)
            go_wp2_with (refine own_append rfl (.tmp 47) (.tmp 49) rfl HO.out (Keeps.refl _) rfl _ rfl 4 F4 (Src.row Tryd.underlying38 (by simp [lF4]) HF.out.2.1 (int_oneCell _)) (by omega) ?_; intro v2 w3 ho1 hg1; have HO1 := Lib.hid ho1; have HG1 := Lib.hid hg1; clear ho1 hg1)
            try dsimp only [StepQ]
            refine ⟨?_, fun hHeld => ?_⟩
            focus (exact Lib.hid (HO1.out.keeps))
            try simp only [kP]
            refine hl_gen (fun W => Keeps W6 W ∧ Own W6 W v2 37 (FR ++ F4) ∧ HdAlong W6 W q9 (zeroL64k.map (Value.int .u8)) v2) ⟨HO1.out.keeps, HO1.out, HA.out.grown HG1.out⟩ ?_
            rintro W ⟨hk, ho, ha⟩
            have HK := Lib.hid hk; have HO := Lib.hid ho; have HA := Lib.hid ha; clear hk ho ha
            have hHeld : Hid (Keeps W6 W) := HK
            refine wpAnyHL_one (i := 8) (o := ?_) (by kernel_rfl) (by kernel_rfl) ?_ ?_
            rotate_left 1
            focus (simp only [kG]; exact rfl)
            go_wp2_with (go_at_call 14; refine (HHM.out _ _ HK.out HO.out.rd).mono ?_; rintro r w4 ⟨rfl, hk2⟩; have HK2 := Lib.hid hk2; clear hk2)
            try dsimp only [StepQ]
            refine ⟨?_, fun hHeld => ?_⟩
            focus (exact Lib.hid (HK.out.trans HK2.out))
            try simp only [kP]
            refine hl_gen (fun W => Keeps W6 W ∧ HdAlong W6 W q9 (zeroL64k.map (Value.int .u8)) (.slice none 0 0)) ⟨HK.out.trans HK2.out, ⟨(HA.out.keeps HK2.out).row, HA.out.ge, (HA.out.keeps HK2.out).lt, by simp [Value.ownBlock]⟩⟩ ?_
            rintro W ⟨hk, ha⟩
            have HK := Lib.hid hk; have HA := Lib.hid ha; clear hk ha
            have hHeld : Hid (Keeps W6 W) := HK
            refine wpAnyHL_done (by kernel_rfl) ?_
            try simp only [List.drop_succ_cons, List.drop_zero]
            go_wp2_with (refine ws (g := q9) (olds := (zeroL64k.map (Value.int .u8))) HA.out.row hchH rfl (h := ?_); intro w5 hr5 hc5; have HR5 := Lib.hid hr5; have HC5 := Lib.hid hc5; clear hr5 hc5)
            refine KEY.out _ _ _ _ _ _ _ _ _ _ _ ?_
            exact ⟨q9, rfl, nm_keeps_chg HK.out HC5.out HA.out.ge, HR5.out, HA.out.ge⟩
        · skip
          go_wp2
          try dsimp only [StepQ]
          refine ⟨?_, fun hHeld => ?_⟩
          focus (exact Lib.hid (nm_keeps_alloc HK.out _))
          try simp only [kP]
          obtain ⟨q9, hq9⟩ : ∃ q9, q9 = W.heap.size := ⟨_, rfl⟩
          rw [← hq9]
          have HQ9 := Lib.hid hq9; clear hq9
          refine hl_gen (fun W => Keeps W6 W ∧ Own W6 W v0 0 [] ∧ HdAlong W6 W q9 (zeroL64k.map (Value.int .u8)) v0) ⟨nm_keeps_alloc HK.out _, HO.out.step (nm_keeps_alloc (Keeps.refl W) _), by rw [HQ9.out]; exact HdAlong.new HK.out (HO.out) (zeroL64k.map (Value.int .u8)) _ rfl _⟩ ?_
          rintro W ⟨hk, ho, ha⟩
          have HK := Lib.hid hk; have HO := Lib.hid ho; have HA := Lib.hid ha; clear hk ho ha
          have hHeld : Hid (Keeps W6 W) := HK
          refine wpAnyHL_one (i := 4) (o := ?_) (by kernel_rfl) (by kernel_rfl) ?_ ?_
          rotate_left 1
          focus (simp only [kG]; exact rfl)
          go_wp2_with (refine own_append rfl (.tmp 45) (.tmp 46) rfl HO.out (Keeps.refl _) rfl _ rfl 33 FR (HSRC.out _ HK.out) (by omega) ?_; intro v1 w1 ho1 hg1; have HO1 := Lib.hid ho1; have HG1 := Lib.hid hg1; clear ho1 hg1)
          try dsimp only [StepQ]
          refine ⟨?_, fun hHeld => ?_⟩
          focus (exact Lib.hid (HO1.out.keeps))
          try simp only [kP]
          refine hl_gen (fun W => Keeps W6 W ∧ Own W6 W v1 33 FR ∧ HdAlong W6 W q9 (zeroL64k.map (Value.int .u8)) v1) ⟨HO1.out.keeps, by have := HO1.out; rwa [List.nil_append] at this, HA.out.grown HG1.out⟩ ?_
          rintro W ⟨hk, ho, ha⟩
          have HK := Lib.hid hk; have HO := Lib.hid ho; have HA := Lib.hid ha; clear hk ho ha
          have hHeld : Hid (Keeps W6 W) := HK
          refine wpAnyHL_one (i := 6) (o := ?_) (by kernel_rfl) (by kernel_rfl) ?_ ?_
          rotate_left 1
          focus (simp only [kG]; exact rfl)
          go_wp2_with (go_at_call 22; refine (HFOUR.out _).mono ?_; rintro r w2 ⟨g4, rfl, hk2, hge2, hlt2, hr2⟩; have HK2 := Lib.hid hk2; have HR2 := Lib.hid hr2; clear hk2 hr2)
          try dsimp only [StepQ]
          refine ⟨?_, fun hHeld => ?_⟩
          focus (exact Lib.hid (HK.out.trans HK2.out))
          try simp only [kP]
          refine hl_gen (fun W => Keeps W6 W ∧ Own W6 W v1 33 FR ∧ (g4 < W.heap.size ∧ Row W g4 0 (F4.map (Value.int .u8)) ∧ v1.ownBlock ≠ some g4) ∧ HdAlong W6 W q9 (zeroL64k.map (Value.int .u8)) v1) ⟨HK.out.trans HK2.out, HO.out.step HK2.out, ⟨hlt2, HR2.out, fun e => by have := HO.out.buf.lt e; omega⟩, HA.out.keeps HK2.out⟩ ?_
          rintro W ⟨hk, ho, hf, ha⟩
          have HK := Lib.hid hk; have HO := Lib.hid ho; have HF := Lib.hid hf; have HA := Lib.hid ha; clear hk ho hf ha
          have hHeld : Hid (Keeps W6 W) := HK
          refine wpAnyHL_one (i := 7) (o := ?_) (by kernel_rfl) (by kernel_rfl) ?_ ?_
          rotate_left 1
          focus (simp only [kG]; exact rfl)
          go_wp2_with (refine own_append rfl (.tmp 47) (.tmp 49) rfl HO.out (Keeps.refl _) rfl _ rfl 4 F4 (Src.row Tryd.underlying38 (by simp [lF4]) HF.out.2.1 (int_oneCell _)) (by omega) ?_; intro v2 w3 ho1 hg1; have HO1 := Lib.hid ho1; have HG1 := Lib.hid hg1; clear ho1 hg1)
          try dsimp only [StepQ]
          refine ⟨?_, fun hHeld => ?_⟩
          focus (exact Lib.hid (HO1.out.keeps))
          try simp only [kP]
          refine hl_gen (fun W => Keeps W6 W ∧ Own W6 W v2 37 (FR ++ F4) ∧ HdAlong W6 W q9 (zeroL64k.map (Value.int .u8)) v2) ⟨HO1.out.keeps, HO1.out, HA.out.grown HG1.out⟩ ?_
          rintro W ⟨hk, ho, ha⟩
          have HK := Lib.hid hk; have HO := Lib.hid ho; have HA := Lib.hid ha; clear hk ho ha
          have hHeld : Hid (Keeps W6 W) := HK
          refine wpAnyHL_one (i := 8) (o := ?_) (by kernel_rfl) (by kernel_rfl) ?_ ?_
          rotate_left 1
          focus (simp only [kG]; exact rfl)
          go_wp2_with (go_at_call 14; refine (HHM.out _ _ HK.out HO.out.rd).mono ?_; rintro r w4 ⟨rfl, hk2⟩; have HK2 := Lib.hid hk2; clear hk2)
          try dsimp only [StepQ]
          refine ⟨?_, fun hHeld => ?_⟩
          focus (exact Lib.hid (HK.out.trans HK2.out))
          try simp only [kP]
          refine hl_gen (fun W => Keeps W6 W ∧ HdAlong W6 W q9 (zeroL64k.map (Value.int .u8)) (.slice none 0 0)) ⟨HK.out.trans HK2.out, ⟨(HA.out.keeps HK2.out).row, HA.out.ge, (HA.out.keeps HK2.out).lt, by simp [Value.ownBlock]⟩⟩ ?_
          rintro W ⟨hk, ha⟩
          have HK := Lib.hid hk; have HA := Lib.hid ha; clear hk ha
          have hHeld : Hid (Keeps W6 W) := HK
          refine wpAnyHL_done (by kernel_rfl) ?_
          try simp only [List.drop_succ_cons, List.drop_zero]
          go_wp2_with (refine ws (g := q9) (olds := (zeroL64k.map (Value.int .u8))) HA.out.row hchH rfl (h := ?_); intro w5 hr5 hc5; have HR5 := Lib.hid hr5; have HC5 := Lib.hid hc5; clear hr5 hc5)
          refine KEY.out _ _ _ _ _ _ _ _ _ _ _ ?_
          exact ⟨q9, rfl, nm_keeps_chg HK.out HC5.out HA.out.ge, HR5.out, HA.out.ge⟩
      · skip
        go_wp2
        try dsimp only [StepQ]
        refine ⟨?_, fun hHeld => ?_⟩
        focus (exact Lib.hid (nm_keeps_alloc HK.out _))
        try simp only [kP]
        obtain ⟨q9, hq9⟩ : ∃ q9, q9 = W.heap.size := ⟨_, rfl⟩
        rw [← hq9]
        have HQ9 := Lib.hid hq9; clear hq9
        refine hl_gen (fun W => Keeps W6 W ∧ HdAlong W6 W q9 (zeroL64k.map (Value.int .u8)) (.slice none 0 0)) ⟨nm_keeps_alloc HK.out _, by rw [HQ9.out]; exact HdAlong.new HK.out (own_none HK.out) (zeroL64k.map (Value.int .u8)) _ rfl _⟩ ?_
        rintro W ⟨hk, ha⟩
        have HK := Lib.hid hk; have HA := Lib.hid ha; clear hk ha
        have hHeld : Hid (Keeps W6 W) := HK
        refine wpAnyHL_one (i := 2) (o := ?_) (by kernel_rfl) (by kernel_rfl) ?_ ?_
        rotate_left 1
        focus (simp only [kG]; exact rfl)
        go_wp2
        try dsimp only [StepQ]
        refine ⟨?_, fun hHeld => ?_⟩
        focus (exact Lib.hid (nm_keeps_alloc HK.out _))
        try simp only [kP]
        obtain ⟨v0, hv0⟩ : ∃ v0, v0 = Value.slice (some ⟨W.heap.size, 0, none⟩) 0 0 := ⟨_, rfl⟩
        rw [← hv0]
        have HV0 := Lib.hid hv0; clear hv0
        refine hl_gen (fun W => Keeps W6 W ∧ Own W6 W v0 0 [] ∧ HdAlong W6 W q9 (zeroL64k.map (Value.int .u8)) v0) ⟨nm_keeps_alloc HK.out _, by rw [HV0.out]; exact own_made HK.out _, by rw [HV0.out]; exact HA.out.made _⟩ ?_
        rintro W ⟨hk, ho, ha⟩
        have HK := Lib.hid hk; have HO := Lib.hid ho; have HA := Lib.hid ha; clear hk ho ha
        have hHeld : Hid (Keeps W6 W) := HK
        refine wpAnyHL_one (i := 4) (o := ?_) (by kernel_rfl) (by kernel_rfl) ?_ ?_
        rotate_left 1
        focus (simp only [kG]; exact rfl)
        go_wp2_with (refine own_append rfl (.tmp 45) (.tmp 46) rfl HO.out (Keeps.refl _) rfl _ rfl 33 FR (HSRC.out _ HK.out) (by omega) ?_; intro v1 w1 ho1 hg1; have HO1 := Lib.hid ho1; have HG1 := Lib.hid hg1; clear ho1 hg1)
        try dsimp only [StepQ]
        refine ⟨?_, fun hHeld => ?_⟩
        focus (exact Lib.hid (HO1.out.keeps))
        try simp only [kP]
        refine hl_gen (fun W => Keeps W6 W ∧ Own W6 W v1 33 FR ∧ HdAlong W6 W q9 (zeroL64k.map (Value.int .u8)) v1) ⟨HO1.out.keeps, by have := HO1.out; rwa [List.nil_append] at this, HA.out.grown HG1.out⟩ ?_
        rintro W ⟨hk, ho, ha⟩
        have HK := Lib.hid hk; have HO := Lib.hid ho; have HA := Lib.hid ha; clear hk ho ha
        have hHeld : Hid (Keeps W6 W) := HK
        refine wpAnyHL_one (i := 6) (o := ?_) (by kernel_rfl) (by kernel_rfl) ?_ ?_
        rotate_left 1
        focus (simp only [kG]; exact rfl)
        go_wp2_with (go_at_call 22; refine (HFOUR.out _).mono ?_; rintro r w2 ⟨g4, rfl, hk2, hge2, hlt2, hr2⟩; have HK2 := Lib.hid hk2; have HR2 := Lib.hid hr2; clear hk2 hr2)
        try dsimp only [StepQ]
        refine ⟨?_, fun hHeld => ?_⟩
        focus (exact Lib.hid (HK.out.trans HK2.out))
        try simp only [kP]
        refine hl_gen (fun W => Keeps W6 W ∧ Own W6 W v1 33 FR ∧ (g4 < W.heap.size ∧ Row W g4 0 (F4.map (Value.int .u8)) ∧ v1.ownBlock ≠ some g4) ∧ HdAlong W6 W q9 (zeroL64k.map (Value.int .u8)) v1) ⟨HK.out.trans HK2.out, HO.out.step HK2.out, ⟨hlt2, HR2.out, fun e => by have := HO.out.buf.lt e; omega⟩, HA.out.keeps HK2.out⟩ ?_
        rintro W ⟨hk, ho, hf, ha⟩
        have HK := Lib.hid hk; have HO := Lib.hid ho; have HF := Lib.hid hf; have HA := Lib.hid ha; clear hk ho hf ha
        have hHeld : Hid (Keeps W6 W) := HK
        refine wpAnyHL_one (i := 7) (o := ?_) (by kernel_rfl) (by kernel_rfl) ?_ ?_
        rotate_left 1
        focus (simp only [kG]; exact rfl)
        go_wp2_with (refine own_append rfl (.tmp 47) (.tmp 49) rfl HO.out (Keeps.refl _) rfl _ rfl 4 F4 (Src.row Tryd.underlying38 (by simp [lF4]) HF.out.2.1 (int_oneCell _)) (by omega) ?_; intro v2 w3 ho1 hg1; have HO1 := Lib.hid ho1; have HG1 := Lib.hid hg1; clear ho1 hg1)
        try dsimp only [StepQ]
        refine ⟨?_, fun hHeld => ?_⟩
        focus (exact Lib.hid (HO1.out.keeps))
        try simp only [kP]
        refine hl_gen (fun W => Keeps W6 W ∧ Own W6 W v2 37 (FR ++ F4) ∧ HdAlong W6 W q9 (zeroL64k.map (Value.int .u8)) v2) ⟨HO1.out.keeps, HO1.out, HA.out.grown HG1.out⟩ ?_
        rintro W ⟨hk, ho, ha⟩
        have HK := Lib.hid hk; have HO := Lib.hid ho; have HA := Lib.hid ha; clear hk ho ha
        have hHeld : Hid (Keeps W6 W) := HK
        refine wpAnyHL_one (i := 8) (o := ?_) (by kernel_rfl) (by kernel_rfl) ?_ ?_
        rotate_left 1
        focus (simp only [kG]; exact rfl)
        go_wp2_with (go_at_call 14; refine (HHM.out _ _ HK.out HO.out.rd).mono ?_; rintro r w4 ⟨rfl, hk2⟩; have HK2 := Lib.hid hk2; clear hk2)
        try dsimp only [StepQ]
        refine ⟨?_, fun hHeld => ?_⟩
        focus (exact Lib.hid (HK.out.trans HK2.out))
        try simp only [kP]
        refine hl_gen (fun W => Keeps W6 W ∧ HdAlong W6 W q9 (zeroL64k.map (Value.int .u8)) (.slice none 0 0)) ⟨HK.out.trans HK2.out, ⟨(HA.out.keeps HK2.out).row, HA.out.ge, (HA.out.keeps HK2.out).lt, by simp [Value.ownBlock]⟩⟩ ?_
        rintro W ⟨hk, ha⟩
        have HK := Lib.hid hk; have HA := Lib.hid ha; clear hk ha
        have hHeld : Hid (Keeps W6 W) := HK
        refine wpAnyHL_done (by kernel_rfl) ?_
        try simp only [List.drop_succ_cons, List.drop_zero]
        go_wp2_with (refine ws (g := q9) (olds := (zeroL64k.map (Value.int .u8))) HA.out.row hchH rfl (h := ?_); intro w5 hr5 hc5; have HR5 := Lib.hid hr5; have HC5 := Lib.hid hc5; clear hr5 hc5)
        refine KEY.out _ _ _ _ _ _ _ _ _ _ _ ?_
        exact ⟨q9, rfl, nm_keeps_chg HK.out HC5.out HA.out.ge, HR5.out, HA.out.ge⟩
    intro us W11 hl hj
    match us, hl with
    | [u1, u2, u3, u4, u5, u6, u7, u8, u9, u10], _ =>
    simp only [putAll, kP]
    clear hK1 K1
    obtain ⟨q9, hq, hk, hrow, hge⟩ := hj
    obtain rfl : u1 = .pointer (some ⟨q9, 0, none⟩) := hq
    have HR := Lib.hid (HR.out.keeps hk); have HRZ := Lib.hid (HRZ.out.keeps hk); have HR6 := Lib.hid (HR6.out.keeps hk); have HKW := Lib.hid (HKW.out.trans hk); have HR9 := Lib.hid hrow
    have hq9 : q6 < q9 := Nat.lt_of_lt_of_le hqW hge
    clear hk hrow hge
    have lBY : (CH.take 32).length = 32 := by rw [List.length_take, hchH]; rfl
    have lCC : (CH.drop 32).length = 32 := by rw [List.length_drop, hchH]
    have RBY := Lib.hid (fun W (hr : Row W q9 0 (CH.map (Value.int .u8))) => show Row W q9 0 ((CH.take 32).map (Value.int .u8)) by rw [List.map_take]; exact hr.take 32)
    have RCC := Lib.hid (fun W (hr : Row W q9 0 (CH.map (Value.int .u8))) => show Row W q9 32 ((CH.drop 32).map (Value.int .u8)) by rw [List.map_drop]; have := hr.drop 32; rwa [Nat.zero_add] at this)
    have hsp1 := fun W => run_arrayAt (P := Tryd.prog) (w := W) 24 5 32 (some ⟨q9, 0, none⟩) 32 64 Tryd.underlying24 (Nat.le_refl _)
    have hsp2 := fun W => run_arrayAt (P := Tryd.prog) (w := W) 24 5 32 (some ⟨q9, 32, none⟩) 32 32 Tryd.underlying24 (Nat.le_refl _)
    have hbk := built_kid (k.d + 1) n (CH.drop 32) lCC
    have HBK := Lib.hid hbk; clear hbk
    generalize hBYe : CH.take 32 = BY at *
    generalize hCCe : CH.drop 32 = CC at *
    have HBYE := Lib.hid hBYe; have HCCE := Lib.hid hCCe
    clear hBYe hCCe
    go_upto_region 13 with (first | (refine wl (RBY.out _ HR9.out) lBY (h := ?_)) | (refine ws (g := W11.heap.size) (olds := (zeroL32.map (Value.int .u8))) (Row.new _ _ _ rfl) lBY rfl (h := ?_); intro W12 hr2 hc2; have HR10 := Lib.hid hr2; have HK12 := Lib.hid (nm_keeps_chg (nm_keeps_alloc (Keeps.refl W11) _) hc2 (Nat.le_refl _)); clear hr2 hc2))
    have hq10 : q9 < W11.heap.size := HR9.out.lt (map_ne hchH)
    generalize W11.heap.size = q10 at *
    have HR := Lib.hid (HR.out.keeps HK12.out); have HRZ := Lib.hid (HRZ.out.keeps HK12.out); have HR6 := Lib.hid (HR6.out.keeps HK12.out); have HR9 := Lib.hid (HR9.out.keeps HK12.out); have HKW := Lib.hid (HKW.out.trans HK12.out)
    have hW12 : q10 < W12.heap.size := HR10.out.lt (map_ne lBY)
    clear HK12
    have hdw : IntKind.u8.wrap (k.d + 1) = k.d + 1 := by rw [IntKind.wrap_u8]; have := h.d; omega
    obtain ⟨KA, hKA⟩ : ∃ KA, KA = kidA (k.d + 1) n CC := ⟨_, rfl⟩
    rw [← hKA] at HBK
    have lKA : KA.cells.length = 71 := by rw [hKA]; exact keyCells_length rfl lCC rfl
    have sKA : (Tryd.prog.info? 30).map (·.size) = some KA.cells.length := by rw [hKA]; exact sz_hkey rfl lCC rfl
    have HKA := Lib.hid hKA; have SKA := Lib.hid sKA
    clear hKA sKA
    refine wp_region_keep 9 [8] [0, 1, 2, 3, 4, 5, 6, 7] (fun _ => K0.cells) (by kernel_rfl) (by kernel_rfl) (by intro i hi; simp only [List.mem_cons, List.not_mem_nil, or_false] at hi; subst hi; exact ⟨_, rfl, alloc_key rfl rfl⟩) ?_
    refine kp (h := ?_)
    refine kp (hx := by (intro wS hS; have c9 := (RWS.out wS p (HR.out.keeps hS)).1; go_simp) <;> with_reducible rfl) (h := ?_)
    iterate 4 refine kp (h := ?_)
    refine kl (fun wS hS => (RCC.out _ (HR9.out.keeps hS))) lCC (h := ?_)
    refine kp (hx := by intro wS hS; (refine cu_run_build 30 [(0, .tmp 57), (2, .tmp 58), (3, .tmp 61)] ?_ _ ?_ _ HBK.out) <;> rfl) (h := ?_)
    refine keep_nil ?_
    intro GG V1 hk1 hG
    obtain ⟨ha8, hz8, hd8⟩ := hG 8 (by simp)
    clear hd8
    simp only [putsA, dstAt, ptrV, kD, kG, kP, Option.bind_some]
    generalize GG 8 = q11 at *
    clear hG
    have HZ8 := Lib.hid hz8; have HV1 := Lib.hid hk1; clear hk1 hz8
    go_upto_region 14 with (refine wpList_store_row rfl 30 (.tmp 11) (.tmp 62) rfl q11 0 rfl K0.cells KA.cells rfl HZ8.out (by rw [lKA]; rfl) SKA.out KA.one ?_; intro W13 hr2 hc2; have HR11 := Lib.hid hr2; have HK13 := Lib.hid (nm_keeps_chg HV1.out hc2 ha8); clear hr2 hc2)
    have HR := Lib.hid (HR.out.keeps HK13.out); have HRZ := Lib.hid (HRZ.out.keeps HK13.out); have HR6 := Lib.hid (HR6.out.keeps HK13.out); have HR10 := Lib.hid (HR10.out.keeps HK13.out); have HKW := Lib.hid (HKW.out.trans HK13.out)
    have hq11 : q10 < q11 := Nat.lt_of_lt_of_le hW12 ha8
    have hW13 : q11 < W13.heap.size := HR11.out.lt (fun e => by rw [e] at lKA; cases lKA)
    clear HK13 HV1 HZ8 ha8 HR9 RCC RBY hsp1 hsp2
    have HP33 := Lib.hid (show Rd W13 1 (.slice (some ⟨q6, 0, none⟩) 33 33) 33 (PV.map (Value.int .u8)) from Rd.of_row HR6.out (by rw [List.length_map, hpl]) (by omega) (Nat.le_refl _) (by unfold maxLen; omega))
    go_upto_region 15 with (first | (go_at_call 23; refine (HH160.out _ _ HP33.out).mono ?_; rintro e W14 ⟨rfl, hk1⟩; have HK14 := Lib.hid hk1; clear hk1) | (refine ws (g := W14.heap.size) (olds := ((List.replicate 20 (0 : Int)).map (Value.int .u8))) (Row.new _ _ _ rfl) l20 rfl (h := ?_); intro W15 hr2 hc2; have HR12 := Lib.hid hr2; have HK15 := Lib.hid (nm_keeps_chg (nm_keeps_alloc HK14.out _) hc2 HK14.out.size); clear hr2 hc2))
    have hq12 : q11 < W14.heap.size := Nat.lt_of_lt_of_le hW13 HK14.out.size
    generalize W14.heap.size = q12 at *
    have HR := Lib.hid (HR.out.keeps HK15.out); have HRZ := Lib.hid (HRZ.out.keeps HK15.out); have HR10 := Lib.hid (HR10.out.keeps HK15.out); have HR11 := Lib.hid (HR11.out.keeps HK15.out); have HKW := Lib.hid (HKW.out.trans HK15.out)
    have hW15 : q12 < W15.heap.size := HR12.out.lt (map_ne l20)
    clear HK14 HK15 HP33 HR6
    have hFGl : FG.length = 4 := by rw [HFIN.out, List.length_take, l20]; rfl
    have HPF := Lib.hid (show KA.cells.take 1 ++ (F20.map (Value.int .u8)).take 4 ++ KA.cells.drop (1 + 4) = (KD.mk (k.d + 1) FG n CC 0 Z32k).cells by rw [← List.map_take, ← HFIN.out, HKA.out]; exact kidA_finger _ _ _ _ hFGl)
    refine wp_region_quiet_tail 3 (by kernel_rfl) (by kernel_rfl) ?_
    simp only [List.take_succ_cons, List.take_zero, List.drop_succ_cons, List.drop_zero]
    repeat (first | go_big_quiet_step (fail) | quiet_step (fail))
    refine wpQuiet_nil ?_
    intro _ hw'
    obtain ⟨nq, hw''⟩ := hw'
    subst hw''
    refine hk_copy_cut rfl (.tmp 66) (.tmp 67) rfl q11 1 4 4 rfl (some ⟨q12, 0, none⟩) 20 20 rfl (by omega) (by omega) KA.cells (HR11.out.drewN nq) (by rw [lKA]; omega) (F20.map (Value.int .u8)) (Rd.of_row (HR12.out.drewN nq) (by rw [List.length_map, l20]) (by show q12 < W15.heap.size; omega) (Nat.le_refl _) (by unfold maxLen; omega)) (int_oneCell _) (fun W16 hr6 hc6 => ?_)
    rw [HPF.out] at hr6
    have HR11 := Lib.hid hr6
    have HR := Lib.hid ((HR.out.drewN nq).chg hc6 (by omega)); have HRZ := Lib.hid ((HRZ.out.drewN nq).chg hc6 (by omega)); have HR10 := Lib.hid ((HR10.out.drewN nq).chg hc6 (by omega)); have HKW := Lib.hid (nm_keeps_chg (HKW.out.trans (Qt.drewN W15 nq).keeps) hc6 (by omega))
    have hW16 : q11 < W16.heap.size := Nat.lt_of_lt_of_le (show q11 < W15.heap.size by omega) hc6.size
    clear hr6 hc6 HPF HR12 SKA HKA HBK
    go_upto_region 16 with (fail)
    generalize hK2 : KD.mk (k.d + 1) FG n CC 0 Z32k = K2 at *
    have HK2 := Lib.hid hK2; clear hK2
    have lK2 : K2.cells.length = 71 := by rw [← HK2.out]; exact keyCells_length hFGl lCC rfl
    go_upto_region 17 with (first | (refine wpList_load_at rfl 30 (.tmp 2) rfl p 0 rfl _ _ HR.out Tryd.underlying30 rfl ZK.out ?_) | (go_at_call 9; rw [decide_eq_true hx] at HPR; refine (HPR.out _).mono ?_; rintro e W17 ⟨rfl, hk1⟩; have HK17 := Lib.hid hk1; clear hk1))
    have HR := Lib.hid (HR.out.keeps HK17.out); have HRZ := Lib.hid (HRZ.out.keeps HK17.out); have HR10 := Lib.hid (HR10.out.keeps HK17.out); have HR11 := Lib.hid (HR11.out.keeps HK17.out); have HKW := Lib.hid (HKW.out.trans HK17.out)
    have hW17 : q11 < W17.heap.size := Nat.lt_of_lt_of_le hW16 HK17.out.size
    clear HK17
    go_upto_region 18 with (fail)
    refine cu_rows1 (fun W18 hk1 hr1 hs1 => ?_)
    obtain ⟨Z13, hZ13, hrz13⟩ : ∃ Z : List Value, Z.length = 32 ∧ Row W18 W17.heap.size 0 Z := ⟨_, rfl, hr1⟩
    have HR13 := Lib.hid hrz13
    have HR := Lib.hid (HR.out.keeps hk1); have HRZ := Lib.hid (HRZ.out.keeps hk1); have HR10 := Lib.hid (HR10.out.keeps hk1); have HR11 := Lib.hid (HR11.out.keeps hk1); have HKW := Lib.hid (HKW.out.trans hk1)
    have hW18 : W17.heap.size < W18.heap.size := by omega
    generalize W17.heap.size = q13 at *
    clear hk1 hr1 hs1 hrz13
    refine wp_region_head (S := fun W => Hid ((fun W' => Keeps w W' ∧ Row W' p 0 KC ∧ Row W' q10 0 (BY.map (Value.int .u8)) ∧ Row W' q11 0 K2.cells ∧ Row W' (p + 1) 0 K0.cells ∧ q13 < W'.heap.size ∧ ∃ Z : List Value, Z.length = 32 ∧ Row W' q13 0 Z) W)) 8 (by kernel_rfl) (by kernel_rfl) ?_ (fun hHeld => ?_)
    focus exact Lib.hid ⟨keeps_drew1 HKW.out, HR.out.drew, HR10.out.drew, HR11.out.drew, HRZ.out.drew, hW18, Z13, hZ13, HR13.out.drew⟩
    refine lt 0 (hx := by intro wSw hSw; (have hSw := hSw.out); (refine cu_run_load 30 (.tmp 2) ?_ p 0 ?_ _ _ hSw.2.1 Tryd.underlying30 rfl ZK.out) <;> rfl) (h := ?_)
    refine lt 2 (hx := by intro wSw hSw; (have hSw := hSw.out); (refine cu_run_load 24 (.tmp 10) ?_ q10 0 ?_ _ _ hSw.2.2.1 Tryd.underlying24 rfl (by rw [List.length_map, lBY]; exact sz_b32')) <;> rfl) (h := ?_)
    refine wpAnyHL_one (i := 1) (o := ?_) (by kernel_rfl) (by kernel_rfl) ?_ ?_
    rotate_left 1
    focus (simp only [kG]; exact rfl)
    go_wp2_with (go_at_call 20; refine (HSE.out _).mono ?_; rintro r W5 ⟨rfl, hk5⟩; have HK5 := Lib.hid hk5; clear hk5)
    try dsimp only [StepQ]
    refine ⟨?_, fun hHeld => ?_⟩
    focus (exact Lib.hid (⟨hHeld.out.1.trans HK5.out, hHeld.out.2.1.keeps HK5.out, hHeld.out.2.2.1.keeps HK5.out, hHeld.out.2.2.2.1.keeps HK5.out, hHeld.out.2.2.2.2.1.keeps HK5.out, Nat.lt_of_lt_of_le hHeld.out.2.2.2.2.2.1 HK5.out.size, hHeld.out.2.2.2.2.2.2.imp (fun _ h => ⟨h.1, h.2.keeps HK5.out⟩)⟩))
    try simp only [kP]
    refine wpAnyHL_one (i := 3) (o := ?_) (by kernel_rfl) (by kernel_rfl) ?_ ?_
    rotate_left 1
    focus (simp only [kG]; exact rfl)
    go_wp2_with (go_at_call 24; refine (HAK.out _).mono ?_; rintro r W5 ⟨rfl, hk5⟩; have HK5 := Lib.hid hk5; clear hk5)
    try dsimp only [StepQ]
    refine ⟨?_, fun hHeld => ?_⟩
    focus (exact Lib.hid (⟨hHeld.out.1.trans HK5.out, hHeld.out.2.1.keeps HK5.out, hHeld.out.2.2.1.keeps HK5.out, hHeld.out.2.2.2.1.keeps HK5.out, hHeld.out.2.2.2.2.1.keeps HK5.out, Nat.lt_of_lt_of_le hHeld.out.2.2.2.2.2.1 HK5.out.size, hHeld.out.2.2.2.2.2.2.imp (fun _ h => ⟨h.1, h.2.keeps HK5.out⟩)⟩))
    try simp only [kP]
    refine lt 4 (h := ?_)
    refine lt 5 (h := ?_)
    refine lt 6 (h := ?_)
    obtain ⟨Z2, hZ2, hrz2⟩ := hHeld.out.2.2.2.2.2.2
    have HRZ3 := Lib.hid hrz2
    clear hrz2
    refine wpAnyHL_one (i := 7) (o := ?_) (by kernel_rfl) (by kernel_rfl) ?_ ?_
    rotate_left 1
    focus (simp only [kG]; exact rfl)
    go_wp2_with (refine ws HRZ3.out lAK (by rw [hZ2]) (h := ?_); intro w9 hr9 hc9; have H9 := Lib.hid hr9; have HC9 := Lib.hid hc9; clear hr9 hc9)
    try dsimp only [StepQ]
    refine ⟨?_, fun hHeld => ?_⟩
    focus (exact Lib.hid (⟨nm_keeps_chg hHeld.out.1 HC9.out (by omega), hHeld.out.2.1.chg HC9.out (by omega), hHeld.out.2.2.1.chg HC9.out (by omega), hHeld.out.2.2.2.1.chg HC9.out (by omega), hHeld.out.2.2.2.2.1.chg HC9.out (by omega), Nat.lt_of_lt_of_le hHeld.out.2.2.2.2.2.1 HC9.out.size, _, by rw [List.length_map, lAK], H9.out⟩))
    try simp only [kP]
    refine wpAnyHL_done (by kernel_rfl) ?_
    try simp only [List.drop_succ_cons, List.drop_zero]
    go_upto_region 19 with (fail)
    refine wp_gen (fun W => Keeps w W ∧ Row W q11 0 K2.cells ∧ Row W (p + 1) 0 K0.cells ∧ Row W q13 0 (AK.1.map (Value.int .u8)) ∧ q13 < W.heap.size) ⟨hHeld.out.1, hHeld.out.2.2.2.1, hHeld.out.2.2.2.2.1, H9.out, hHeld.out.2.2.2.2.2.1⟩ ?_
    clear hHeld H9 HC9 HRZ3 HR HRZ HR10 HR11 HR13 HKW hW18
    rintro W19 ⟨hk, hr, hr2, hr3, hW19⟩
    have HKW := Lib.hid hk; have HR11 := Lib.hid hr; have HRZ := Lib.hid hr2; have HR13 := Lib.hid hr3
    clear hk hr hr2 hr3
    have HPD := Lib.hid (show K2.cells.take 39 ++ AK.1.map (Value.int .u8) ++ K2.cells.drop (39 + 32) = (KD.mk (k.d + 1) FG n CC 0 AK.1).cells by rw [← HK2.out]; exact kid_data _ hFGl lCC _ rfl lAK)
    refine wp_region_quiet_tail 3 (by kernel_rfl) (by kernel_rfl) ?_
    simp only [List.take_succ_cons, List.take_zero, List.drop_succ_cons, List.drop_zero]
    repeat (first | go_big_quiet_step (fail) | quiet_step (fail))
    refine wpQuiet_nil ?_
    intro _ hw'
    obtain ⟨nq, hw''⟩ := hw'
    subst hw''
    refine hk_copy rfl (.tmp 79) (.tmp 80) rfl q11 39 32 32 rfl (some ⟨q13, 0, none⟩) 32 32 rfl (Nat.le_refl _) K2.cells (HR11.out.drewN nq) (by rw [lK2]; omega) (AK.1.map (Value.int .u8)) (Rd.of_row (HR13.out.drewN nq) (by rw [List.length_map, lAK]) (by show q13 < W19.heap.size; omega) (Nat.le_refl _) (by unfold maxLen; omega)) (int_oneCell _) (fun W20 hr6 hc6 => ?_)
    rw [HPD.out] at hr6
    have HR11 := Lib.hid hr6
    have HRZ := Lib.hid ((HRZ.out.drewN nq).chg hc6 (by omega)); have HKW := Lib.hid (nm_keeps_chg (HKW.out.trans (Qt.drewN W19 nq).keeps) hc6 (by omega))
    clear hr6 hc6 HPD HR13
    have hcb := HCB0.out hx
    have lK3 : (KD.mk (k.d + 1) FG n CC 0 AK.1).cells.length = 71 := keyCells_length hFGl lCC (by simp [lAK])
    have SK3 := Lib.hid (show (Tryd.prog.info? 30).map (·.size) = some (KD.mk (k.d + 1) FG n CC 0 AK.1).cells.length from sz_hkey hFGl lCC (by simp [lAK]))
    have ON3 := Lib.hid (KD.mk (k.d + 1) FG n CC 0 AK.1).one
    have Z0 := Lib.hid K0_ok.sz
    by_cases he : AK.2 = 0
    · obtain rfl : ST = (KD.mk (k.d + 1) FG n CC 0 AK.1, 0) := by
        rw [HST1.out (by rw [hcb]; exact he), hcb]; rfl
      have hne : (AK.2 != 0) = false := by rw [he]; rfl
      clear hcb HST1 HST2 HCB0 HCB1 HK2
      go_wp2_with (first | (refine wpList_load_at rfl 30 (.tmp 11) rfl q11 0 rfl _ _ HR11.out Tryd.underlying30 rfl SK3.out ?_) | (refine wpList_store_row rfl 30 (.tmp 4) (.tmp 93) rfl (p + 1) 0 rfl K0.cells (KD.mk (k.d + 1) FG n CC 0 AK.1).cells rfl HRZ.out (by rw [lK3]; rfl) SK3.out ON3.out ?_; intro w9 hr9 hc9; have H9 := Lib.hid hr9; have HC9 := Lib.hid hc9; clear hr9 hc9))
      exact bodyPost_ret (results_cell_tmpB (p := 4) (t := 5) (ty := 30) rfl _ _ (p + 1) 0 _ _ _ rfl rfl H9.out Tryd.underlying30 rfl SK3.out) rfl ⟨rfl, nm_keeps_chg HKW.out HC9.out (by omega)⟩
    · obtain rfl : ST = (K0, 7) := HST2.out (by rw [hcb]; exact he)
      have hne : (AK.2 != 0) = true := by rw [bne_iff_ne]; exact he
      clear hcb HST1 HST2 HCB0 HCB1
      go_wp2_with (first | (refine cu_build (by kernel_rfl) 30 _ rfl [] ?_ _ built_none ?_; focus rfl) | (refine wpList_store_row rfl 30 (.tmp 4) (.tmp 92) rfl (p + 1) 0 rfl K0.cells K0.cells rfl HRZ.out rfl Z0.out K0.one ?_; intro w9 hr9 hc9; have H9 := Lib.hid hr9; have HC9 := Lib.hid hc9; clear hr9 hc9))
      exact bodyPost_ret (results_cell_tmpB (p := 4) (t := 5) (ty := 30) rfl _ _ (p + 1) 0 _ _ _ rfl rfl H9.out Tryd.underlying30 rfl Z0.out) rfl ⟨rfl, nm_keeps_chg HKW.out HC9.out (by omega)⟩
set_option maxRecDepth 100000 in
set_option maxHeartbeats 16000000 in
theorem step_pub (k : KD) (h : k.ok) (n : Int) (h0 : 0 ≤ n) (h1 : n < 4294967296) (hg : goodV k.x k.z = true) (hd : ¬ k.d = 255) (hh : ¬ (2147483648 ≤ n ∧ ¬ k.x = 0)) (hmd : ¬ 2147483648 ≤ n) (hx : ¬ k.x = 0) (w : World) :
    Calls Tryd.prog 12 #[.agg k.cells.toArray, .int .u32 n] w fun e w' => e = .returned (.tuple #[.agg (stepV k n).1.cells.toArray, .int .i64 (stepV k n).2]) ∧ Keeps w w' := by
  have hpr : pointR k = (pointV k.x k.z, 0) := by unfold pointR; rw [if_pos hg]
  have hpt0 := fun W => point_k k h W
  rw [hpr] at hpt0
  dsimp only at hpt0
  have HPT := Lib.hid hpt0
  clear hpt0 hpr
  have HPR := Lib.hid (fun W => private_k k h W)
  have hpl := pointV_len h
  have hpb := pointV_bytes h
  have hkl := h.len
  have ZK := Lib.hid h.sz
  have R38 := Lib.hid (fun (W : World) (p : Nat) (hr : Row W p 0 k.cells) => h.row38 hr)
  have RWS := Lib.hid (fun (W : World) (p : Nat) (hr : Row W p 0 k.cells) => h.rows hr)
  have HFOUR := Lib.hid (fun W => four_any n h0 h1 W)
  have lF4 : (four n).length = 4 := rfl
  have bF4 := four_bytes h0 h1
  have hdl := h.dl
  have hdb := h.db
  have hcl := h.cl
  have hcb := h.cb
  have hchH := childH_len k n
  obtain ⟨FR, hFR, hfl, hfb⟩ : ∃ FR, FR = (if 2147483648 ≤ n then k.x :: k.z else pointV k.x k.z) ∧ FR.length = 33 ∧ Bytes FR := by
    by_cases hn : 2147483648 ≤ n
    · exact ⟨_, rfl, by rw [if_pos hn]; exact hdl, by rw [if_pos hn]; exact hdb⟩
    · exact ⟨_, rfl, by rw [if_neg hn]; exact hpl, by rw [if_neg hn]; exact hpb⟩
  have hch : B64.hmac k.cc (FR ++ four n) = childH k n := by unfold childH; rw [hFR]
  have HHM0 := Lib.hid (fun (kv bv : Value) (W : World) (hk : Rd W 1 kv 32 (k.cc.map (Value.int .u8))) (hb : Rd W 1 bv 37 ((FR ++ four n).map (Value.int .u8))) => B64.hmac_any kv bv 32 37 k.cc (FR ++ four n) W hk hcb (by omega) hb (fun y hy => by rcases List.mem_append.1 hy with e | e; exact hfb y e; exact bF4 y e) (by omega))
  rw [hch] at HHM0
  have hst1 : (childB k n).2 = 0 → stepV k n = (⟨k.d + 1, fingerV k, n, (childH k n).drop 32, (childB k n).1.headD 0, (childB k n).1.drop 1⟩, 0) := fun e => by
    unfold stepV; rw [if_pos hg, if_neg hd, if_neg hh, if_pos e]
  have hst2 : ¬ (childB k n).2 = 0 → stepV k n = (K0, 7) := fun e => by
    unfold stepV; rw [if_pos hg, if_neg hd, if_neg hh, if_neg e]
  have hcb0 : k.x = 0 → childB k n = (0 :: (addKV (be k.z) (be ((childH k n).take 32))).1, (addKV (be k.z) (be ((childH k n).take 32))).2) := fun e => by unfold childB; rw [if_pos e]
  have hcb1 : ¬ k.x = 0 → childB k n = addPV (k.x :: k.z) (be ((childH k n).take 32)) := fun e => by unfold childB; rw [if_neg e]
  have hbyb : Bytes ((childH k n).take 32) := fun y hy => childH_bytes k n y (List.mem_of_mem_take hy)
  have HAK := Lib.hid (fun W => addkey_any k.z ((childH k n).take 32) h.zb hbyb h.zl (by rw [List.length_take, hchH]; rfl) W)
  have HAP := Lib.hid (fun W => addpub_any (k.x :: k.z) ((childH k n).take 32) hdb hbyb hdl (by rw [List.length_take, hchH]; rfl) W)
  have lAK := addKV_len (be k.z) (be ((childH k n).take 32))
  have lAP := addPV_len (k.x :: k.z) (be ((childH k n).take 32))
  have HSE := Lib.hid (fun W => secret_k k h W)
  have hzl := h.zl
  have HH160 := Lib.hid (fun (v : Value) W (hv : Rd W 1 v 33 ((pointV k.x k.z).map (Value.int .u8))) => Rip.hash160_any v 33 (pointV k.x k.z) W hv hpb (by omega))
  have l20 := Rip.rip160_length (sha256 (pointV k.x k.z))
  have hfin : fingerV k = (Rip.rip160 (sha256 (pointV k.x k.z))).take 4 := rfl
  generalize Rip.rip160 (sha256 (pointV k.x k.z)) = F20 at *
  generalize fingerV k = FG at *
  generalize addKV (be k.z) (be ((childH k n).take 32)) = AK at *
  generalize addPV (k.x :: k.z) (be ((childH k n).take 32)) = AP at *
  generalize childB k n = CB at *
  obtain ⟨a0, az, hap⟩ : ∃ a0 az, AP.1 = a0 :: az := by cases hA : AP.1 with | nil => rw [hA] at lAP; cases lAP | cons a l => exact ⟨a, l, rfl⟩
  have HAPE := Lib.hid hap; clear hap
  generalize childH k n = CH at *
  generalize four n = F4 at *
  generalize pointV k.x k.z = PV at *
  have hmode : (2147483648 ≤ n ∧ FR = k.x :: k.z) ∨ (¬ 2147483648 ≤ n ∧ FR = PV) := by
    by_cases hn : 2147483648 ≤ n
    · exact .inl ⟨hn, by rw [hFR, if_pos hn]⟩
    · exact .inr ⟨hn, by rw [hFR, if_neg hn]⟩
  clear hFR hch
  have HMODE := Lib.hid hmode
  have hx0 : 2147483648 ≤ n → k.x = 0 := fun hn => Classical.byContradiction fun e => hh ⟨hn, e⟩
  generalize k.cells = KC at *
  generalize stepV k n = ST at *
  have HST1 := Lib.hid hst1; have HST2 := Lib.hid hst2; have HCB0 := Lib.hid hcb0; have HCB1 := Lib.hid hcb1; have HFIN := Lib.hid hfin
  clear hmode hst1 hst2 hcb0 hcb1 hfin
  have hd2 : (k.d == 255) = false := by rw [beq_eq_false_iff_ne]; exact hd
  go_enter Tryd.func12, Tryd.ntmps12
  go_upto_region 1 with (fail)
  refine cu_rows2 (fun W hk hr hr2 hs => ?_)
  obtain ⟨p, hp⟩ : ∃ p, p = w.heap.size := ⟨_, rfl⟩
  rw [← hp] at hr hr2 hs ⊢
  have hkp : w.heap.size ≤ p := by omega
  have HR := Lib.hid (show Row W p 0 KC from by simpa using hr); have HK := Lib.hid hk
  have HRZ := Lib.hid (show Row W (p + 1) 0 K0.cells from hr2)
  have hps : p + 1 < W.heap.size := by omega
  clear hp hk hr hr2 hs
  go_upto_region 2 with (first | (refine wpList_load_at rfl 30 (.tmp 2) rfl p 0 rfl _ _ HR.out Tryd.underlying30 rfl ZK.out ?_) | (go_at_call 13; refine (HPT.out _).mono ?_; rintro e W1 ⟨rfl, hk1⟩; have HK1 := Lib.hid hk1; clear hk1) | (refine ws (g := W1.heap.size) (olds := (zeroL33.map (Value.int .u8))) (Row.new _ _ _ rfl) hpl rfl (h := ?_); intro W6 hr2 hc2; have HR6 := Lib.hid hr2; have HK3 := Lib.hid (nm_keeps_chg (nm_keeps_alloc HK1.out _) hc2 HK1.out.size); clear hr2 hc2))
  have HRZ := Lib.hid (HRZ.out.keeps HK3.out); have HR := Lib.hid (HR.out.keeps HK3.out); have HKW := Lib.hid (HK.out.trans HK3.out)
  have hpq : p + 1 < W1.heap.size := Nat.lt_of_lt_of_le hps HK1.out.size
  generalize W1.heap.size = q6 at *
  have hqW : q6 < W6.heap.size := HR6.out.lt (map_ne hpl)
  clear HK HK1 HK3
  obtain ⟨c0, r1, c5, r6⟩ := RWS.out _ _ HR.out
  have R6 := Lib.hid r6; have C0 := Lib.hid c0
  clear r1 r6 c5
  rcases HMODE.out with ⟨hn, hFR⟩ | ⟨hn, hFR⟩
  · exact absurd hn (by omega)
  · skip
    clear hx0
    have hge : decide (2147483648 ≤ n) = false := decide_eq_false (by omega)
    clear hn hmd
    go_upto_region 11 with (fail)
    refine wp_gen (fun W => Keeps w W ∧ Row W p 0 KC ∧ Row W (p + 1) 0 K0.cells ∧ Row W q6 0 (PV.map (Value.int .u8)) ∧ Row W p 6 (k.cc.map (Value.int .u8)) ∧ q6 < W.heap.size) ⟨HKW.out, HR.out, HRZ.out, HR6.out, R6.out, hqW⟩ ?_
    clear HR HRZ HKW HR6 R6 C0 hqW c0
    rintro W6 ⟨hk, hr, hr2, hr3, hr4, hqW⟩
    have HKW := Lib.hid hk; have HR := Lib.hid hr; have HRZ := Lib.hid hr2; have HR6 := Lib.hid hr3; have R6 := Lib.hid hr4
    clear hk hr hr2 hr3 hr4
    have hcc : (k.cc.map (Value.int .u8)).length = 32 := by rw [List.length_map, hcl]
    have HHM := Lib.hid (fun bv W (hk : Keeps W6 W) (hb : Rd W 1 bv 37 ((FR ++ F4).map (Value.int .u8))) => HHM0.out (.slice (some ⟨p, 6, none⟩) 32 32) bv W (Rd.of_row (R6.out.keeps hk) (by rw [hcc]) (by have := hk.size; omega) (Nat.le_refl _) (by unfold maxLen; omega)) hb)
    have HSRC := Lib.hid (fun W (hk : Keeps W6 W) => show Src Tryd.prog 1 38 (.slice (some ⟨q6, 0, none⟩) 33 33) 33 (FR.map (Value.int .u8)) W from Src.row Tryd.underlying38 (by rw [List.length_map, hfl]) (by rw [hFR]; exact HR6.out.keeps hk) (int_oneCell _))
    rename_i K1 hK1
    refine wp_join2 [9, 43, 44, 45, 46, 47, 48, 49, 50, 51] (fun us W => ∃ q9, us.getD 0 undef = .pointer (some ⟨q9, 0, none⟩) ∧ Keeps W6 W ∧ Row W q9 0 (CH.map (Value.int .u8)) ∧ W6.heap.size ≤ q9) hK1 (fun key0 => ?_) ?_
    focus
      have key := fun u1 u2 u3 u4 u5 u6 u7 u8 u9 u10 w' => key0 [u1, u2, u3, u4, u5, u6, u7, u8, u9, u10] w' rfl
      clear key0 hK1
      simp only [putAll, kP] at key
      have KEY := Lib.hid key
      clear key
      refine wp_region_head (S := fun W => Hid ((fun W => Keeps W6 W) W)) 10 (by kernel_rfl) (by kernel_rfl) ?_ (fun hHeld => ?_)
      focus exact Lib.hid (keeps_drew1 (Keeps.refl _))
      refine lt 0 (h := ?_)
      refine lt 1 (h := ?_)
      refine lt 3 (h := ?_)
      refine lt 5 (h := ?_)
      refine hl_gen (fun W => Keeps W6 W) hHeld.out ?_
      intro W hk
      have HK := Lib.hid hk; clear hk hHeld
      have hHeld : Hid (Keeps W6 W) := HK
      refine wpAnyHL_two (i := 2) (j := 9) (by kernel_rfl) (by kernel_rfl) (h := ?_) (h' := ?_)
      · skip
        go_wp2
        try dsimp only [StepQ]
        refine ⟨?_, fun hHeld => ?_⟩
        focus (exact Lib.hid (nm_keeps_alloc HK.out _))
        try simp only [kP]
        obtain ⟨v0, hv0⟩ : ∃ v0, v0 = Value.slice (some ⟨W.heap.size, 0, none⟩) 0 0 := ⟨_, rfl⟩
        rw [← hv0]
        have HV0 := Lib.hid hv0; clear hv0
        refine hl_gen (fun W => Keeps W6 W ∧ Own W6 W v0 0 []) ⟨nm_keeps_alloc HK.out _, by rw [HV0.out]; exact own_made HK.out _⟩ ?_
        rintro W ⟨hk, ho⟩
        have HK := Lib.hid hk; have HO := Lib.hid ho; clear hk ho
        have hHeld : Hid (Keeps W6 W) := HK
        refine wpAnyHL_two (i := 4) (j := 9) (by kernel_rfl) (by kernel_rfl) (h := ?_) (h' := ?_)
        · skip
          go_wp2_with (refine own_append rfl (.tmp 45) (.tmp 46) rfl HO.out (Keeps.refl _) rfl _ rfl 33 FR (HSRC.out _ HK.out) (by omega) ?_; intro v1 w1 ho1 hg1; have HO1 := Lib.hid ho1; have HG1 := Lib.hid hg1; clear ho1 hg1)
          try dsimp only [StepQ]
          refine ⟨?_, fun hHeld => ?_⟩
          focus (exact Lib.hid (HO1.out.keeps))
          try simp only [kP]
          refine hl_gen (fun W => Keeps W6 W ∧ Own W6 W v1 33 FR) ⟨HO1.out.keeps, by have := HO1.out; rwa [List.nil_append] at this⟩ ?_
          rintro W ⟨hk, ho⟩
          have HK := Lib.hid hk; have HO := Lib.hid ho; clear hk ho
          have hHeld : Hid (Keeps W6 W) := HK
          refine wpAnyHL_two (i := 6) (j := 9) (by kernel_rfl) (by kernel_rfl) (h := ?_) (h' := ?_)
          · skip
            go_wp2_with (go_at_call 22; refine (HFOUR.out _).mono ?_; rintro r w2 ⟨g4, rfl, hk2, hge2, hlt2, hr2⟩; have HK2 := Lib.hid hk2; have HR2 := Lib.hid hr2; clear hk2 hr2)
            try dsimp only [StepQ]
            refine ⟨?_, fun hHeld => ?_⟩
            focus (exact Lib.hid (HK.out.trans HK2.out))
            try simp only [kP]
            refine hl_gen (fun W => Keeps W6 W ∧ Own W6 W v1 33 FR ∧ (g4 < W.heap.size ∧ Row W g4 0 (F4.map (Value.int .u8)) ∧ v1.ownBlock ≠ some g4)) ⟨HK.out.trans HK2.out, HO.out.step HK2.out, ⟨hlt2, HR2.out, fun e => by have := HO.out.buf.lt e; omega⟩⟩ ?_
            rintro W ⟨hk, ho, hf⟩
            have HK := Lib.hid hk; have HO := Lib.hid ho; have HF := Lib.hid hf; clear hk ho hf
            have hHeld : Hid (Keeps W6 W) := HK
            refine wpAnyHL_two (i := 7) (j := 9) (by kernel_rfl) (by kernel_rfl) (h := ?_) (h' := ?_)
            · skip
              go_wp2_with (refine own_append rfl (.tmp 47) (.tmp 49) rfl HO.out (Keeps.refl _) rfl _ rfl 4 F4 (Src.row Tryd.underlying38 (by simp [lF4]) HF.out.2.1 (int_oneCell _)) (by omega) ?_; intro v2 w3 ho1 hg1; have HO1 := Lib.hid ho1; have HG1 := Lib.hid hg1; clear ho1 hg1)
              try dsimp only [StepQ]
              refine ⟨?_, fun hHeld => ?_⟩
              focus (exact Lib.hid (HO1.out.keeps))
              try simp only [kP]
              refine hl_gen (fun W => Keeps W6 W ∧ Own W6 W v2 37 (FR ++ F4)) ⟨HO1.out.keeps, HO1.out⟩ ?_
              rintro W ⟨hk, ho⟩
              have HK := Lib.hid hk; have HO := Lib.hid ho; clear hk ho
              have hHeld : Hid (Keeps W6 W) := HK
              refine wpAnyHL_two (i := 8) (j := 9) (by kernel_rfl) (by kernel_rfl) (h := ?_) (h' := ?_)
              · skip
                go_wp2_with (go_at_call 14; refine (HHM.out _ _ HK.out HO.out.rd).mono ?_; rintro r w4 ⟨rfl, hk2⟩; have HK2 := Lib.hid hk2; clear hk2)
                try dsimp only [StepQ]
                refine ⟨?_, fun hHeld => ?_⟩
                focus (exact Lib.hid (HK.out.trans HK2.out))
                try simp only [kP]
                refine hl_gen (fun W => Keeps W6 W) (HK.out.trans HK2.out) ?_
                rintro W hk
                have HK := Lib.hid hk; clear hk
                have hHeld : Hid (Keeps W6 W) := HK
                refine wpAnyHL_one (i := 9) (o := ?_) (by kernel_rfl) (by kernel_rfl) ?_ ?_
                rotate_left 1
                focus (simp only [kG]; exact rfl)
                go_wp2
                try dsimp only [StepQ]
                refine ⟨?_, fun hHeld => ?_⟩
                focus (exact Lib.hid (nm_keeps_alloc HK.out _))
                try simp only [kP]
                obtain ⟨q9, hq9⟩ : ∃ q9, q9 = W.heap.size := ⟨_, rfl⟩
                rw [← hq9]
                have HQ9 := Lib.hid hq9; clear hq9
                refine hl_gen (fun W => Keeps W6 W ∧ HdAlong W6 W q9 (zeroL64k.map (Value.int .u8)) (.slice none 0 0)) ⟨nm_keeps_alloc HK.out _, by rw [HQ9.out]; exact HdAlong.new HK.out (own_none HK.out) (zeroL64k.map (Value.int .u8)) _ rfl _⟩ ?_
                rintro W ⟨hk, ha⟩
                have HK := Lib.hid hk; have HA := Lib.hid ha; clear hk ha
                have hHeld : Hid (Keeps W6 W) := HK
                refine wpAnyHL_done (by kernel_rfl) ?_
                try simp only [List.drop_succ_cons, List.drop_zero]
                go_wp2_with (refine ws (g := q9) (olds := (zeroL64k.map (Value.int .u8))) HA.out.row hchH rfl (h := ?_); intro w5 hr5 hc5; have HR5 := Lib.hid hr5; have HC5 := Lib.hid hc5; clear hr5 hc5)
                refine KEY.out _ _ _ _ _ _ _ _ _ _ _ ?_
                exact ⟨q9, rfl, nm_keeps_chg HK.out HC5.out HA.out.ge, HR5.out, HA.out.ge⟩
              · skip
                go_wp2
                try dsimp only [StepQ]
                refine ⟨?_, fun hHeld => ?_⟩
                focus (exact Lib.hid (nm_keeps_alloc HK.out _))
                try simp only [kP]
                obtain ⟨q9, hq9⟩ : ∃ q9, q9 = W.heap.size := ⟨_, rfl⟩
                rw [← hq9]
                have HQ9 := Lib.hid hq9; clear hq9
                refine hl_gen (fun W => Keeps W6 W ∧ Own W6 W v2 37 (FR ++ F4) ∧ HdAlong W6 W q9 (zeroL64k.map (Value.int .u8)) v2) ⟨nm_keeps_alloc HK.out _, HO.out.step (nm_keeps_alloc (Keeps.refl W) _), by rw [HQ9.out]; exact HdAlong.new HK.out (HO.out) (zeroL64k.map (Value.int .u8)) _ rfl _⟩ ?_
                rintro W ⟨hk, ho, ha⟩
                have HK := Lib.hid hk; have HO := Lib.hid ho; have HA := Lib.hid ha; clear hk ho ha
                have hHeld : Hid (Keeps W6 W) := HK
                refine wpAnyHL_one (i := 8) (o := ?_) (by kernel_rfl) (by kernel_rfl) ?_ ?_
                rotate_left 1
                focus (simp only [kG]; exact rfl)
                go_wp2_with (go_at_call 14; refine (HHM.out _ _ HK.out HO.out.rd).mono ?_; rintro r w4 ⟨rfl, hk2⟩; have HK2 := Lib.hid hk2; clear hk2)
                try dsimp only [StepQ]
                refine ⟨?_, fun hHeld => ?_⟩
                focus (exact Lib.hid (HK.out.trans HK2.out))
                try simp only [kP]
                refine hl_gen (fun W => Keeps W6 W ∧ HdAlong W6 W q9 (zeroL64k.map (Value.int .u8)) (.slice none 0 0)) ⟨HK.out.trans HK2.out, ⟨(HA.out.keeps HK2.out).row, HA.out.ge, (HA.out.keeps HK2.out).lt, by simp [Value.ownBlock]⟩⟩ ?_
                rintro W ⟨hk, ha⟩
                have HK := Lib.hid hk; have HA := Lib.hid ha; clear hk ha
                have hHeld : Hid (Keeps W6 W) := HK
                refine wpAnyHL_done (by kernel_rfl) ?_
                try simp only [List.drop_succ_cons, List.drop_zero]
                go_wp2_with (refine ws (g := q9) (olds := (zeroL64k.map (Value.int .u8))) HA.out.row hchH rfl (h := ?_); intro w5 hr5 hc5; have HR5 := Lib.hid hr5; have HC5 := Lib.hid hc5; clear hr5 hc5)
                refine KEY.out _ _ _ _ _ _ _ _ _ _ _ ?_
                exact ⟨q9, rfl, nm_keeps_chg HK.out HC5.out HA.out.ge, HR5.out, HA.out.ge⟩
            · skip
              go_wp2
              try dsimp only [StepQ]
              refine ⟨?_, fun hHeld => ?_⟩
              focus (exact Lib.hid (nm_keeps_alloc HK.out _))
              try simp only [kP]
              obtain ⟨q9, hq9⟩ : ∃ q9, q9 = W.heap.size := ⟨_, rfl⟩
              rw [← hq9]
              have HQ9 := Lib.hid hq9; clear hq9
              refine hl_gen (fun W => Keeps W6 W ∧ Own W6 W v1 33 FR ∧ (g4 < W.heap.size ∧ Row W g4 0 (F4.map (Value.int .u8)) ∧ v1.ownBlock ≠ some g4) ∧ HdAlong W6 W q9 (zeroL64k.map (Value.int .u8)) v1) ⟨nm_keeps_alloc HK.out _, HO.out.step (nm_keeps_alloc (Keeps.refl W) _), ⟨by have := HF.out.1; simp; omega, HF.out.2.1.alloc _, HF.out.2.2⟩, by rw [HQ9.out]; exact HdAlong.new HK.out (HO.out) (zeroL64k.map (Value.int .u8)) _ rfl _⟩ ?_
              rintro W ⟨hk, ho, hf, ha⟩
              have HK := Lib.hid hk; have HO := Lib.hid ho; have HF := Lib.hid hf; have HA := Lib.hid ha; clear hk ho hf ha
              have hHeld : Hid (Keeps W6 W) := HK
              refine wpAnyHL_one (i := 7) (o := ?_) (by kernel_rfl) (by kernel_rfl) ?_ ?_
              rotate_left 1
              focus (simp only [kG]; exact rfl)
              go_wp2_with (refine own_append rfl (.tmp 47) (.tmp 49) rfl HO.out (Keeps.refl _) rfl _ rfl 4 F4 (Src.row Tryd.underlying38 (by simp [lF4]) HF.out.2.1 (int_oneCell _)) (by omega) ?_; intro v2 w3 ho1 hg1; have HO1 := Lib.hid ho1; have HG1 := Lib.hid hg1; clear ho1 hg1)
              try dsimp only [StepQ]
              refine ⟨?_, fun hHeld => ?_⟩
              focus (exact Lib.hid (HO1.out.keeps))
              try simp only [kP]
              refine hl_gen (fun W => Keeps W6 W ∧ Own W6 W v2 37 (FR ++ F4) ∧ HdAlong W6 W q9 (zeroL64k.map (Value.int .u8)) v2) ⟨HO1.out.keeps, HO1.out, HA.out.grown HG1.out⟩ ?_
              rintro W ⟨hk, ho, ha⟩
              have HK := Lib.hid hk; have HO := Lib.hid ho; have HA := Lib.hid ha; clear hk ho ha
              have hHeld : Hid (Keeps W6 W) := HK
              refine wpAnyHL_one (i := 8) (o := ?_) (by kernel_rfl) (by kernel_rfl) ?_ ?_
              rotate_left 1
              focus (simp only [kG]; exact rfl)
              go_wp2_with (go_at_call 14; refine (HHM.out _ _ HK.out HO.out.rd).mono ?_; rintro r w4 ⟨rfl, hk2⟩; have HK2 := Lib.hid hk2; clear hk2)
              try dsimp only [StepQ]
              refine ⟨?_, fun hHeld => ?_⟩
              focus (exact Lib.hid (HK.out.trans HK2.out))
              try simp only [kP]
              refine hl_gen (fun W => Keeps W6 W ∧ HdAlong W6 W q9 (zeroL64k.map (Value.int .u8)) (.slice none 0 0)) ⟨HK.out.trans HK2.out, ⟨(HA.out.keeps HK2.out).row, HA.out.ge, (HA.out.keeps HK2.out).lt, by simp [Value.ownBlock]⟩⟩ ?_
              rintro W ⟨hk, ha⟩
              have HK := Lib.hid hk; have HA := Lib.hid ha; clear hk ha
              have hHeld : Hid (Keeps W6 W) := HK
              refine wpAnyHL_done (by kernel_rfl) ?_
              try simp only [List.drop_succ_cons, List.drop_zero]
              go_wp2_with (refine ws (g := q9) (olds := (zeroL64k.map (Value.int .u8))) HA.out.row hchH rfl (h := ?_); intro w5 hr5 hc5; have HR5 := Lib.hid hr5; have HC5 := Lib.hid hc5; clear hr5 hc5)
              refine KEY.out _ _ _ _ _ _ _ _ _ _ _ ?_
              exact ⟨q9, rfl, nm_keeps_chg HK.out HC5.out HA.out.ge, HR5.out, HA.out.ge⟩
          · skip
            go_wp2
            try dsimp only [StepQ]
            refine ⟨?_, fun hHeld => ?_⟩
            focus (exact Lib.hid (nm_keeps_alloc HK.out _))
            try simp only [kP]
            obtain ⟨q9, hq9⟩ : ∃ q9, q9 = W.heap.size := ⟨_, rfl⟩
            rw [← hq9]
            have HQ9 := Lib.hid hq9; clear hq9
            refine hl_gen (fun W => Keeps W6 W ∧ Own W6 W v1 33 FR ∧ HdAlong W6 W q9 (zeroL64k.map (Value.int .u8)) v1) ⟨nm_keeps_alloc HK.out _, HO.out.step (nm_keeps_alloc (Keeps.refl W) _), by rw [HQ9.out]; exact HdAlong.new HK.out (HO.out) (zeroL64k.map (Value.int .u8)) _ rfl _⟩ ?_
            rintro W ⟨hk, ho, ha⟩
            have HK := Lib.hid hk; have HO := Lib.hid ho; have HA := Lib.hid ha; clear hk ho ha
            have hHeld : Hid (Keeps W6 W) := HK
            refine wpAnyHL_one (i := 6) (o := ?_) (by kernel_rfl) (by kernel_rfl) ?_ ?_
            rotate_left 1
            focus (simp only [kG]; exact rfl)
            go_wp2_with (go_at_call 22; refine (HFOUR.out _).mono ?_; rintro r w2 ⟨g4, rfl, hk2, hge2, hlt2, hr2⟩; have HK2 := Lib.hid hk2; have HR2 := Lib.hid hr2; clear hk2 hr2)
            try dsimp only [StepQ]
            refine ⟨?_, fun hHeld => ?_⟩
            focus (exact Lib.hid (HK.out.trans HK2.out))
            try simp only [kP]
            refine hl_gen (fun W => Keeps W6 W ∧ Own W6 W v1 33 FR ∧ (g4 < W.heap.size ∧ Row W g4 0 (F4.map (Value.int .u8)) ∧ v1.ownBlock ≠ some g4) ∧ HdAlong W6 W q9 (zeroL64k.map (Value.int .u8)) v1) ⟨HK.out.trans HK2.out, HO.out.step HK2.out, ⟨hlt2, HR2.out, fun e => by have := HO.out.buf.lt e; omega⟩, HA.out.keeps HK2.out⟩ ?_
            rintro W ⟨hk, ho, hf, ha⟩
            have HK := Lib.hid hk; have HO := Lib.hid ho; have HF := Lib.hid hf; have HA := Lib.hid ha; clear hk ho hf ha
            have hHeld : Hid (Keeps W6 W) := HK
            refine wpAnyHL_one (i := 7) (o := ?_) (by kernel_rfl) (by kernel_rfl) ?_ ?_
            rotate_left 1
            focus (simp only [kG]; exact rfl)
            go_wp2_with (refine own_append rfl (.tmp 47) (.tmp 49) rfl HO.out (Keeps.refl _) rfl _ rfl 4 F4 (Src.row Tryd.underlying38 (by simp [lF4]) HF.out.2.1 (int_oneCell _)) (by omega) ?_; intro v2 w3 ho1 hg1; have HO1 := Lib.hid ho1; have HG1 := Lib.hid hg1; clear ho1 hg1)
            try dsimp only [StepQ]
            refine ⟨?_, fun hHeld => ?_⟩
            focus (exact Lib.hid (HO1.out.keeps))
            try simp only [kP]
            refine hl_gen (fun W => Keeps W6 W ∧ Own W6 W v2 37 (FR ++ F4) ∧ HdAlong W6 W q9 (zeroL64k.map (Value.int .u8)) v2) ⟨HO1.out.keeps, HO1.out, HA.out.grown HG1.out⟩ ?_
            rintro W ⟨hk, ho, ha⟩
            have HK := Lib.hid hk; have HO := Lib.hid ho; have HA := Lib.hid ha; clear hk ho ha
            have hHeld : Hid (Keeps W6 W) := HK
            refine wpAnyHL_one (i := 8) (o := ?_) (by kernel_rfl) (by kernel_rfl) ?_ ?_
            rotate_left 1
            focus (simp only [kG]; exact rfl)
            go_wp2_with (go_at_call 14; refine (HHM.out _ _ HK.out HO.out.rd).mono ?_; rintro r w4 ⟨rfl, hk2⟩; have HK2 := Lib.hid hk2; clear hk2)
            try dsimp only [StepQ]
            refine ⟨?_, fun hHeld => ?_⟩
            focus (exact Lib.hid (HK.out.trans HK2.out))
            try simp only [kP]
            refine hl_gen (fun W => Keeps W6 W ∧ HdAlong W6 W q9 (zeroL64k.map (Value.int .u8)) (.slice none 0 0)) ⟨HK.out.trans HK2.out, ⟨(HA.out.keeps HK2.out).row, HA.out.ge, (HA.out.keeps HK2.out).lt, by simp [Value.ownBlock]⟩⟩ ?_
            rintro W ⟨hk, ha⟩
            have HK := Lib.hid hk; have HA := Lib.hid ha; clear hk ha
            have hHeld : Hid (Keeps W6 W) := HK
            refine wpAnyHL_done (by kernel_rfl) ?_
            try simp only [List.drop_succ_cons, List.drop_zero]
            go_wp2_with (refine ws (g := q9) (olds := (zeroL64k.map (Value.int .u8))) HA.out.row hchH rfl (h := ?_); intro w5 hr5 hc5; have HR5 := Lib.hid hr5; have HC5 := Lib.hid hc5; clear hr5 hc5)
            refine KEY.out _ _ _ _ _ _ _ _ _ _ _ ?_
            exact ⟨q9, rfl, nm_keeps_chg HK.out HC5.out HA.out.ge, HR5.out, HA.out.ge⟩
        · skip
          go_wp2
          try dsimp only [StepQ]
          refine ⟨?_, fun hHeld => ?_⟩
          focus (exact Lib.hid (nm_keeps_alloc HK.out _))
          try simp only [kP]
          obtain ⟨q9, hq9⟩ : ∃ q9, q9 = W.heap.size := ⟨_, rfl⟩
          rw [← hq9]
          have HQ9 := Lib.hid hq9; clear hq9
          refine hl_gen (fun W => Keeps W6 W ∧ Own W6 W v0 0 [] ∧ HdAlong W6 W q9 (zeroL64k.map (Value.int .u8)) v0) ⟨nm_keeps_alloc HK.out _, HO.out.step (nm_keeps_alloc (Keeps.refl W) _), by rw [HQ9.out]; exact HdAlong.new HK.out (HO.out) (zeroL64k.map (Value.int .u8)) _ rfl _⟩ ?_
          rintro W ⟨hk, ho, ha⟩
          have HK := Lib.hid hk; have HO := Lib.hid ho; have HA := Lib.hid ha; clear hk ho ha
          have hHeld : Hid (Keeps W6 W) := HK
          refine wpAnyHL_one (i := 4) (o := ?_) (by kernel_rfl) (by kernel_rfl) ?_ ?_
          rotate_left 1
          focus (simp only [kG]; exact rfl)
          go_wp2_with (refine own_append rfl (.tmp 45) (.tmp 46) rfl HO.out (Keeps.refl _) rfl _ rfl 33 FR (HSRC.out _ HK.out) (by omega) ?_; intro v1 w1 ho1 hg1; have HO1 := Lib.hid ho1; have HG1 := Lib.hid hg1; clear ho1 hg1)
          try dsimp only [StepQ]
          refine ⟨?_, fun hHeld => ?_⟩
          focus (exact Lib.hid (HO1.out.keeps))
          try simp only [kP]
          refine hl_gen (fun W => Keeps W6 W ∧ Own W6 W v1 33 FR ∧ HdAlong W6 W q9 (zeroL64k.map (Value.int .u8)) v1) ⟨HO1.out.keeps, by have := HO1.out; rwa [List.nil_append] at this, HA.out.grown HG1.out⟩ ?_
          rintro W ⟨hk, ho, ha⟩
          have HK := Lib.hid hk; have HO := Lib.hid ho; have HA := Lib.hid ha; clear hk ho ha
          have hHeld : Hid (Keeps W6 W) := HK
          refine wpAnyHL_one (i := 6) (o := ?_) (by kernel_rfl) (by kernel_rfl) ?_ ?_
          rotate_left 1
          focus (simp only [kG]; exact rfl)
          go_wp2_with (go_at_call 22; refine (HFOUR.out _).mono ?_; rintro r w2 ⟨g4, rfl, hk2, hge2, hlt2, hr2⟩; have HK2 := Lib.hid hk2; have HR2 := Lib.hid hr2; clear hk2 hr2)
          try dsimp only [StepQ]
          refine ⟨?_, fun hHeld => ?_⟩
          focus (exact Lib.hid (HK.out.trans HK2.out))
          try simp only [kP]
          refine hl_gen (fun W => Keeps W6 W ∧ Own W6 W v1 33 FR ∧ (g4 < W.heap.size ∧ Row W g4 0 (F4.map (Value.int .u8)) ∧ v1.ownBlock ≠ some g4) ∧ HdAlong W6 W q9 (zeroL64k.map (Value.int .u8)) v1) ⟨HK.out.trans HK2.out, HO.out.step HK2.out, ⟨hlt2, HR2.out, fun e => by have := HO.out.buf.lt e; omega⟩, HA.out.keeps HK2.out⟩ ?_
          rintro W ⟨hk, ho, hf, ha⟩
          have HK := Lib.hid hk; have HO := Lib.hid ho; have HF := Lib.hid hf; have HA := Lib.hid ha; clear hk ho hf ha
          have hHeld : Hid (Keeps W6 W) := HK
          refine wpAnyHL_one (i := 7) (o := ?_) (by kernel_rfl) (by kernel_rfl) ?_ ?_
          rotate_left 1
          focus (simp only [kG]; exact rfl)
          go_wp2_with (refine own_append rfl (.tmp 47) (.tmp 49) rfl HO.out (Keeps.refl _) rfl _ rfl 4 F4 (Src.row Tryd.underlying38 (by simp [lF4]) HF.out.2.1 (int_oneCell _)) (by omega) ?_; intro v2 w3 ho1 hg1; have HO1 := Lib.hid ho1; have HG1 := Lib.hid hg1; clear ho1 hg1)
          try dsimp only [StepQ]
          refine ⟨?_, fun hHeld => ?_⟩
          focus (exact Lib.hid (HO1.out.keeps))
          try simp only [kP]
          refine hl_gen (fun W => Keeps W6 W ∧ Own W6 W v2 37 (FR ++ F4) ∧ HdAlong W6 W q9 (zeroL64k.map (Value.int .u8)) v2) ⟨HO1.out.keeps, HO1.out, HA.out.grown HG1.out⟩ ?_
          rintro W ⟨hk, ho, ha⟩
          have HK := Lib.hid hk; have HO := Lib.hid ho; have HA := Lib.hid ha; clear hk ho ha
          have hHeld : Hid (Keeps W6 W) := HK
          refine wpAnyHL_one (i := 8) (o := ?_) (by kernel_rfl) (by kernel_rfl) ?_ ?_
          rotate_left 1
          focus (simp only [kG]; exact rfl)
          go_wp2_with (go_at_call 14; refine (HHM.out _ _ HK.out HO.out.rd).mono ?_; rintro r w4 ⟨rfl, hk2⟩; have HK2 := Lib.hid hk2; clear hk2)
          try dsimp only [StepQ]
          refine ⟨?_, fun hHeld => ?_⟩
          focus (exact Lib.hid (HK.out.trans HK2.out))
          try simp only [kP]
          refine hl_gen (fun W => Keeps W6 W ∧ HdAlong W6 W q9 (zeroL64k.map (Value.int .u8)) (.slice none 0 0)) ⟨HK.out.trans HK2.out, ⟨(HA.out.keeps HK2.out).row, HA.out.ge, (HA.out.keeps HK2.out).lt, by simp [Value.ownBlock]⟩⟩ ?_
          rintro W ⟨hk, ha⟩
          have HK := Lib.hid hk; have HA := Lib.hid ha; clear hk ha
          have hHeld : Hid (Keeps W6 W) := HK
          refine wpAnyHL_done (by kernel_rfl) ?_
          try simp only [List.drop_succ_cons, List.drop_zero]
          go_wp2_with (refine ws (g := q9) (olds := (zeroL64k.map (Value.int .u8))) HA.out.row hchH rfl (h := ?_); intro w5 hr5 hc5; have HR5 := Lib.hid hr5; have HC5 := Lib.hid hc5; clear hr5 hc5)
          refine KEY.out _ _ _ _ _ _ _ _ _ _ _ ?_
          exact ⟨q9, rfl, nm_keeps_chg HK.out HC5.out HA.out.ge, HR5.out, HA.out.ge⟩
      · skip
        go_wp2
        try dsimp only [StepQ]
        refine ⟨?_, fun hHeld => ?_⟩
        focus (exact Lib.hid (nm_keeps_alloc HK.out _))
        try simp only [kP]
        obtain ⟨q9, hq9⟩ : ∃ q9, q9 = W.heap.size := ⟨_, rfl⟩
        rw [← hq9]
        have HQ9 := Lib.hid hq9; clear hq9
        refine hl_gen (fun W => Keeps W6 W ∧ HdAlong W6 W q9 (zeroL64k.map (Value.int .u8)) (.slice none 0 0)) ⟨nm_keeps_alloc HK.out _, by rw [HQ9.out]; exact HdAlong.new HK.out (own_none HK.out) (zeroL64k.map (Value.int .u8)) _ rfl _⟩ ?_
        rintro W ⟨hk, ha⟩
        have HK := Lib.hid hk; have HA := Lib.hid ha; clear hk ha
        have hHeld : Hid (Keeps W6 W) := HK
        refine wpAnyHL_one (i := 2) (o := ?_) (by kernel_rfl) (by kernel_rfl) ?_ ?_
        rotate_left 1
        focus (simp only [kG]; exact rfl)
        go_wp2
        try dsimp only [StepQ]
        refine ⟨?_, fun hHeld => ?_⟩
        focus (exact Lib.hid (nm_keeps_alloc HK.out _))
        try simp only [kP]
        obtain ⟨v0, hv0⟩ : ∃ v0, v0 = Value.slice (some ⟨W.heap.size, 0, none⟩) 0 0 := ⟨_, rfl⟩
        rw [← hv0]
        have HV0 := Lib.hid hv0; clear hv0
        refine hl_gen (fun W => Keeps W6 W ∧ Own W6 W v0 0 [] ∧ HdAlong W6 W q9 (zeroL64k.map (Value.int .u8)) v0) ⟨nm_keeps_alloc HK.out _, by rw [HV0.out]; exact own_made HK.out _, by rw [HV0.out]; exact HA.out.made _⟩ ?_
        rintro W ⟨hk, ho, ha⟩
        have HK := Lib.hid hk; have HO := Lib.hid ho; have HA := Lib.hid ha; clear hk ho ha
        have hHeld : Hid (Keeps W6 W) := HK
        refine wpAnyHL_one (i := 4) (o := ?_) (by kernel_rfl) (by kernel_rfl) ?_ ?_
        rotate_left 1
        focus (simp only [kG]; exact rfl)
        go_wp2_with (refine own_append rfl (.tmp 45) (.tmp 46) rfl HO.out (Keeps.refl _) rfl _ rfl 33 FR (HSRC.out _ HK.out) (by omega) ?_; intro v1 w1 ho1 hg1; have HO1 := Lib.hid ho1; have HG1 := Lib.hid hg1; clear ho1 hg1)
        try dsimp only [StepQ]
        refine ⟨?_, fun hHeld => ?_⟩
        focus (exact Lib.hid (HO1.out.keeps))
        try simp only [kP]
        refine hl_gen (fun W => Keeps W6 W ∧ Own W6 W v1 33 FR ∧ HdAlong W6 W q9 (zeroL64k.map (Value.int .u8)) v1) ⟨HO1.out.keeps, by have := HO1.out; rwa [List.nil_append] at this, HA.out.grown HG1.out⟩ ?_
        rintro W ⟨hk, ho, ha⟩
        have HK := Lib.hid hk; have HO := Lib.hid ho; have HA := Lib.hid ha; clear hk ho ha
        have hHeld : Hid (Keeps W6 W) := HK
        refine wpAnyHL_one (i := 6) (o := ?_) (by kernel_rfl) (by kernel_rfl) ?_ ?_
        rotate_left 1
        focus (simp only [kG]; exact rfl)
        go_wp2_with (go_at_call 22; refine (HFOUR.out _).mono ?_; rintro r w2 ⟨g4, rfl, hk2, hge2, hlt2, hr2⟩; have HK2 := Lib.hid hk2; have HR2 := Lib.hid hr2; clear hk2 hr2)
        try dsimp only [StepQ]
        refine ⟨?_, fun hHeld => ?_⟩
        focus (exact Lib.hid (HK.out.trans HK2.out))
        try simp only [kP]
        refine hl_gen (fun W => Keeps W6 W ∧ Own W6 W v1 33 FR ∧ (g4 < W.heap.size ∧ Row W g4 0 (F4.map (Value.int .u8)) ∧ v1.ownBlock ≠ some g4) ∧ HdAlong W6 W q9 (zeroL64k.map (Value.int .u8)) v1) ⟨HK.out.trans HK2.out, HO.out.step HK2.out, ⟨hlt2, HR2.out, fun e => by have := HO.out.buf.lt e; omega⟩, HA.out.keeps HK2.out⟩ ?_
        rintro W ⟨hk, ho, hf, ha⟩
        have HK := Lib.hid hk; have HO := Lib.hid ho; have HF := Lib.hid hf; have HA := Lib.hid ha; clear hk ho hf ha
        have hHeld : Hid (Keeps W6 W) := HK
        refine wpAnyHL_one (i := 7) (o := ?_) (by kernel_rfl) (by kernel_rfl) ?_ ?_
        rotate_left 1
        focus (simp only [kG]; exact rfl)
        go_wp2_with (refine own_append rfl (.tmp 47) (.tmp 49) rfl HO.out (Keeps.refl _) rfl _ rfl 4 F4 (Src.row Tryd.underlying38 (by simp [lF4]) HF.out.2.1 (int_oneCell _)) (by omega) ?_; intro v2 w3 ho1 hg1; have HO1 := Lib.hid ho1; have HG1 := Lib.hid hg1; clear ho1 hg1)
        try dsimp only [StepQ]
        refine ⟨?_, fun hHeld => ?_⟩
        focus (exact Lib.hid (HO1.out.keeps))
        try simp only [kP]
        refine hl_gen (fun W => Keeps W6 W ∧ Own W6 W v2 37 (FR ++ F4) ∧ HdAlong W6 W q9 (zeroL64k.map (Value.int .u8)) v2) ⟨HO1.out.keeps, HO1.out, HA.out.grown HG1.out⟩ ?_
        rintro W ⟨hk, ho, ha⟩
        have HK := Lib.hid hk; have HO := Lib.hid ho; have HA := Lib.hid ha; clear hk ho ha
        have hHeld : Hid (Keeps W6 W) := HK
        refine wpAnyHL_one (i := 8) (o := ?_) (by kernel_rfl) (by kernel_rfl) ?_ ?_
        rotate_left 1
        focus (simp only [kG]; exact rfl)
        go_wp2_with (go_at_call 14; refine (HHM.out _ _ HK.out HO.out.rd).mono ?_; rintro r w4 ⟨rfl, hk2⟩; have HK2 := Lib.hid hk2; clear hk2)
        try dsimp only [StepQ]
        refine ⟨?_, fun hHeld => ?_⟩
        focus (exact Lib.hid (HK.out.trans HK2.out))
        try simp only [kP]
        refine hl_gen (fun W => Keeps W6 W ∧ HdAlong W6 W q9 (zeroL64k.map (Value.int .u8)) (.slice none 0 0)) ⟨HK.out.trans HK2.out, ⟨(HA.out.keeps HK2.out).row, HA.out.ge, (HA.out.keeps HK2.out).lt, by simp [Value.ownBlock]⟩⟩ ?_
        rintro W ⟨hk, ha⟩
        have HK := Lib.hid hk; have HA := Lib.hid ha; clear hk ha
        have hHeld : Hid (Keeps W6 W) := HK
        refine wpAnyHL_done (by kernel_rfl) ?_
        try simp only [List.drop_succ_cons, List.drop_zero]
        go_wp2_with (refine ws (g := q9) (olds := (zeroL64k.map (Value.int .u8))) HA.out.row hchH rfl (h := ?_); intro w5 hr5 hc5; have HR5 := Lib.hid hr5; have HC5 := Lib.hid hc5; clear hr5 hc5)
        refine KEY.out _ _ _ _ _ _ _ _ _ _ _ ?_
        exact ⟨q9, rfl, nm_keeps_chg HK.out HC5.out HA.out.ge, HR5.out, HA.out.ge⟩
    intro us W11 hl hj
    match us, hl with
    | [u1, u2, u3, u4, u5, u6, u7, u8, u9, u10], _ =>
    simp only [putAll, kP]
    clear hK1 K1
    obtain ⟨q9, hq, hk, hrow, hge⟩ := hj
    obtain rfl : u1 = .pointer (some ⟨q9, 0, none⟩) := hq
    have HR := Lib.hid (HR.out.keeps hk); have HRZ := Lib.hid (HRZ.out.keeps hk); have HR6 := Lib.hid (HR6.out.keeps hk); have HKW := Lib.hid (HKW.out.trans hk); have HR9 := Lib.hid hrow
    have hq9 : q6 < q9 := Nat.lt_of_lt_of_le hqW hge
    clear hk hrow hge
    have lBY : (CH.take 32).length = 32 := by rw [List.length_take, hchH]; rfl
    have lCC : (CH.drop 32).length = 32 := by rw [List.length_drop, hchH]
    have RBY := Lib.hid (fun W (hr : Row W q9 0 (CH.map (Value.int .u8))) => show Row W q9 0 ((CH.take 32).map (Value.int .u8)) by rw [List.map_take]; exact hr.take 32)
    have RCC := Lib.hid (fun W (hr : Row W q9 0 (CH.map (Value.int .u8))) => show Row W q9 32 ((CH.drop 32).map (Value.int .u8)) by rw [List.map_drop]; have := hr.drop 32; rwa [Nat.zero_add] at this)
    have hsp1 := fun W => run_arrayAt (P := Tryd.prog) (w := W) 24 5 32 (some ⟨q9, 0, none⟩) 32 64 Tryd.underlying24 (Nat.le_refl _)
    have hsp2 := fun W => run_arrayAt (P := Tryd.prog) (w := W) 24 5 32 (some ⟨q9, 32, none⟩) 32 32 Tryd.underlying24 (Nat.le_refl _)
    have hbk := built_kid (k.d + 1) n (CH.drop 32) lCC
    have HBK := Lib.hid hbk; clear hbk
    generalize hBYe : CH.take 32 = BY at *
    generalize hCCe : CH.drop 32 = CC at *
    have HBYE := Lib.hid hBYe; have HCCE := Lib.hid hCCe
    clear hBYe hCCe
    go_upto_region 13 with (first | (refine wl (RBY.out _ HR9.out) lBY (h := ?_)) | (refine ws (g := W11.heap.size) (olds := (zeroL32.map (Value.int .u8))) (Row.new _ _ _ rfl) lBY rfl (h := ?_); intro W12 hr2 hc2; have HR10 := Lib.hid hr2; have HK12 := Lib.hid (nm_keeps_chg (nm_keeps_alloc (Keeps.refl W11) _) hc2 (Nat.le_refl _)); clear hr2 hc2))
    have hq10 : q9 < W11.heap.size := HR9.out.lt (map_ne hchH)
    generalize W11.heap.size = q10 at *
    have HR := Lib.hid (HR.out.keeps HK12.out); have HRZ := Lib.hid (HRZ.out.keeps HK12.out); have HR6 := Lib.hid (HR6.out.keeps HK12.out); have HR9 := Lib.hid (HR9.out.keeps HK12.out); have HKW := Lib.hid (HKW.out.trans HK12.out)
    have hW12 : q10 < W12.heap.size := HR10.out.lt (map_ne lBY)
    clear HK12
    have hdw : IntKind.u8.wrap (k.d + 1) = k.d + 1 := by rw [IntKind.wrap_u8]; have := h.d; omega
    obtain ⟨KA, hKA⟩ : ∃ KA, KA = kidA (k.d + 1) n CC := ⟨_, rfl⟩
    rw [← hKA] at HBK
    have lKA : KA.cells.length = 71 := by rw [hKA]; exact keyCells_length rfl lCC rfl
    have sKA : (Tryd.prog.info? 30).map (·.size) = some KA.cells.length := by rw [hKA]; exact sz_hkey rfl lCC rfl
    have HKA := Lib.hid hKA; have SKA := Lib.hid sKA
    clear hKA sKA
    refine wp_region_keep 9 [8] [0, 1, 2, 3, 4, 5, 6, 7] (fun _ => K0.cells) (by kernel_rfl) (by kernel_rfl) (by intro i hi; simp only [List.mem_cons, List.not_mem_nil, or_false] at hi; subst hi; exact ⟨_, rfl, alloc_key rfl rfl⟩) ?_
    refine kp (h := ?_)
    refine kp (hx := by (intro wS hS; have c9 := (RWS.out wS p (HR.out.keeps hS)).1; go_simp) <;> with_reducible rfl) (h := ?_)
    iterate 4 refine kp (h := ?_)
    refine kl (fun wS hS => (RCC.out _ (HR9.out.keeps hS))) lCC (h := ?_)
    refine kp (hx := by intro wS hS; (refine cu_run_build 30 [(0, .tmp 57), (2, .tmp 58), (3, .tmp 61)] ?_ _ ?_ _ HBK.out) <;> rfl) (h := ?_)
    refine keep_nil ?_
    intro GG V1 hk1 hG
    obtain ⟨ha8, hz8, hd8⟩ := hG 8 (by simp)
    clear hd8
    simp only [putsA, dstAt, ptrV, kD, kG, kP, Option.bind_some]
    generalize GG 8 = q11 at *
    clear hG
    have HZ8 := Lib.hid hz8; have HV1 := Lib.hid hk1; clear hk1 hz8
    go_upto_region 14 with (refine wpList_store_row rfl 30 (.tmp 11) (.tmp 62) rfl q11 0 rfl K0.cells KA.cells rfl HZ8.out (by rw [lKA]; rfl) SKA.out KA.one ?_; intro W13 hr2 hc2; have HR11 := Lib.hid hr2; have HK13 := Lib.hid (nm_keeps_chg HV1.out hc2 ha8); clear hr2 hc2)
    have HR := Lib.hid (HR.out.keeps HK13.out); have HRZ := Lib.hid (HRZ.out.keeps HK13.out); have HR6 := Lib.hid (HR6.out.keeps HK13.out); have HR10 := Lib.hid (HR10.out.keeps HK13.out); have HKW := Lib.hid (HKW.out.trans HK13.out)
    have hq11 : q10 < q11 := Nat.lt_of_lt_of_le hW12 ha8
    have hW13 : q11 < W13.heap.size := HR11.out.lt (fun e => by rw [e] at lKA; cases lKA)
    clear HK13 HV1 HZ8 ha8 HR9 RCC RBY hsp1 hsp2
    have HP33 := Lib.hid (show Rd W13 1 (.slice (some ⟨q6, 0, none⟩) 33 33) 33 (PV.map (Value.int .u8)) from Rd.of_row HR6.out (by rw [List.length_map, hpl]) (by omega) (Nat.le_refl _) (by unfold maxLen; omega))
    go_upto_region 15 with (first | (go_at_call 23; refine (HH160.out _ _ HP33.out).mono ?_; rintro e W14 ⟨rfl, hk1⟩; have HK14 := Lib.hid hk1; clear hk1) | (refine ws (g := W14.heap.size) (olds := ((List.replicate 20 (0 : Int)).map (Value.int .u8))) (Row.new _ _ _ rfl) l20 rfl (h := ?_); intro W15 hr2 hc2; have HR12 := Lib.hid hr2; have HK15 := Lib.hid (nm_keeps_chg (nm_keeps_alloc HK14.out _) hc2 HK14.out.size); clear hr2 hc2))
    have hq12 : q11 < W14.heap.size := Nat.lt_of_lt_of_le hW13 HK14.out.size
    generalize W14.heap.size = q12 at *
    have HR := Lib.hid (HR.out.keeps HK15.out); have HRZ := Lib.hid (HRZ.out.keeps HK15.out); have HR10 := Lib.hid (HR10.out.keeps HK15.out); have HR11 := Lib.hid (HR11.out.keeps HK15.out); have HKW := Lib.hid (HKW.out.trans HK15.out)
    have hW15 : q12 < W15.heap.size := HR12.out.lt (map_ne l20)
    clear HK14 HK15 HP33 HR6
    have hFGl : FG.length = 4 := by rw [HFIN.out, List.length_take, l20]; rfl
    have HPF := Lib.hid (show KA.cells.take 1 ++ (F20.map (Value.int .u8)).take 4 ++ KA.cells.drop (1 + 4) = (KD.mk (k.d + 1) FG n CC 0 Z32k).cells by rw [← List.map_take, ← HFIN.out, HKA.out]; exact kidA_finger _ _ _ _ hFGl)
    refine wp_region_quiet_tail 3 (by kernel_rfl) (by kernel_rfl) ?_
    simp only [List.take_succ_cons, List.take_zero, List.drop_succ_cons, List.drop_zero]
    repeat (first | go_big_quiet_step (fail) | quiet_step (fail))
    refine wpQuiet_nil ?_
    intro _ hw'
    obtain ⟨nq, hw''⟩ := hw'
    subst hw''
    refine hk_copy_cut rfl (.tmp 66) (.tmp 67) rfl q11 1 4 4 rfl (some ⟨q12, 0, none⟩) 20 20 rfl (by omega) (by omega) KA.cells (HR11.out.drewN nq) (by rw [lKA]; omega) (F20.map (Value.int .u8)) (Rd.of_row (HR12.out.drewN nq) (by rw [List.length_map, l20]) (by show q12 < W15.heap.size; omega) (Nat.le_refl _) (by unfold maxLen; omega)) (int_oneCell _) (fun W16 hr6 hc6 => ?_)
    rw [HPF.out] at hr6
    have HR11 := Lib.hid hr6
    have HR := Lib.hid ((HR.out.drewN nq).chg hc6 (by omega)); have HRZ := Lib.hid ((HRZ.out.drewN nq).chg hc6 (by omega)); have HR10 := Lib.hid ((HR10.out.drewN nq).chg hc6 (by omega)); have HKW := Lib.hid (nm_keeps_chg (HKW.out.trans (Qt.drewN W15 nq).keeps) hc6 (by omega))
    have hW16 : q11 < W16.heap.size := Nat.lt_of_lt_of_le (show q11 < W15.heap.size by omega) hc6.size
    clear hr6 hc6 HPF HR12 SKA HKA HBK
    go_upto_region 16 with (fail)
    generalize hK2 : KD.mk (k.d + 1) FG n CC 0 Z32k = K2 at *
    have HK2 := Lib.hid hK2; clear hK2
    have lK2 : K2.cells.length = 71 := by rw [← HK2.out]; exact keyCells_length hFGl lCC rfl
    go_upto_region 20 with (first | (refine wpList_load_at rfl 30 (.tmp 2) rfl p 0 rfl _ _ HR.out Tryd.underlying30 rfl ZK.out ?_) | (go_at_call 9; rw [decide_eq_false hx] at HPR; refine (HPR.out _).mono ?_; rintro e W17 ⟨rfl, hk1⟩; have HK17 := Lib.hid hk1; clear hk1))
    have HRD := Lib.hid (R38.out _ _ (HR.out.keeps HK17.out)); have HRZ := Lib.hid (HRZ.out.keeps HK17.out); have HR10 := Lib.hid (HR10.out.keeps HK17.out); have HR11 := Lib.hid (HR11.out.keeps HK17.out); have HKW := Lib.hid (HKW.out.trans HK17.out)
    clear HK17
    have HPD := Lib.hid (show K2.cells.take 38 ++ AP.1.map (Value.int .u8) ++ K2.cells.drop (38 + (AP.1.map (Value.int .u8)).length) = (KD.mk (k.d + 1) FG n CC a0 az).cells by rw [HAPE.out, ← HK2.out]; exact kid_data33 _ hFGl lCC rfl _ _ (by rw [← HAPE.out]; exact lAP))
    go_upto_region 21 with (first | (refine wl HRD.out hdl (h := ?_)) | (refine wl HR10.out lBY (h := ?_)) | (go_at_call 25; refine (HAP.out _).mono ?_; rintro e W18 ⟨rfl, hk1⟩; have HK18 := Lib.hid hk1; clear hk1) | (refine wpList_store_in rfl 25 (.tmp 89) (.tmp 87) rfl q11 38 rfl K2.cells (AP.1.map (Value.int .u8)) rfl (HR11.out.keeps HK18.out) (by rw [List.length_map, lAP, lK2]; decide) (by rw [List.length_map, lAP]; exact sz_b33) (int_oneCell _) ?_; intro W19 hr5 hc5; have HR11 := Lib.hid (show Row W19 q11 0 (KD.mk (k.d + 1) FG n CC a0 az).cells by rw [← HPD.out]; exact hr5); have HC5 := Lib.hid hc5; clear hr5 hc5))
    have HRZ := Lib.hid ((HRZ.out.keeps HK18.out).chg HC5.out (by omega)); have HKW := Lib.hid (nm_keeps_chg (HKW.out.trans HK18.out) HC5.out (by omega))
    clear HPD HK18 HC5
    have hcb := HCB1.out hx
    have hdl3 : (a0 :: az).length = 33 := by rw [← HAPE.out]; exact lAP
    have lK3 : (KD.mk (k.d + 1) FG n CC a0 az).cells.length = 71 := keyCells_length hFGl lCC hdl3
    have SK3 := Lib.hid (show (Tryd.prog.info? 30).map (·.size) = some (KD.mk (k.d + 1) FG n CC a0 az).cells.length from sz_hkey hFGl lCC hdl3)
    have ON3 := Lib.hid (KD.mk (k.d + 1) FG n CC a0 az).one
    have Z0 := Lib.hid K0_ok.sz
    by_cases he : AP.2 = 0
    · obtain rfl : ST = (KD.mk (k.d + 1) FG n CC a0 az, 0) := by
        rw [HST1.out (by rw [hcb]; exact he), hcb, HAPE.out]; rfl
      have hne : (AP.2 != 0) = false := by rw [he]; rfl
      clear hcb HST1 HST2 HCB0 HCB1 HK2
      go_wp2_with (first | (refine wpList_load_at rfl 30 (.tmp 11) rfl q11 0 rfl _ _ HR11.out Tryd.underlying30 rfl SK3.out ?_) | (refine wpList_store_row rfl 30 (.tmp 4) (.tmp 93) rfl (p + 1) 0 rfl K0.cells (KD.mk (k.d + 1) FG n CC a0 az).cells rfl HRZ.out (by rw [lK3]; rfl) SK3.out ON3.out ?_; intro w9 hr9 hc9; have H9 := Lib.hid hr9; have HC9 := Lib.hid hc9; clear hr9 hc9))
      exact bodyPost_ret (results_cell_tmpB (p := 4) (t := 5) (ty := 30) rfl _ _ (p + 1) 0 _ _ _ rfl rfl H9.out Tryd.underlying30 rfl SK3.out) rfl ⟨rfl, nm_keeps_chg HKW.out HC9.out (by omega)⟩
    · obtain rfl : ST = (K0, 7) := HST2.out (by rw [hcb]; exact he)
      have hne : (AP.2 != 0) = true := by rw [bne_iff_ne]; exact he
      clear hcb HST1 HST2 HCB0 HCB1
      go_wp2_with (first | (refine cu_build (by kernel_rfl) 30 _ rfl [] ?_ _ built_none ?_; focus rfl) | (refine wpList_store_row rfl 30 (.tmp 4) (.tmp 92) rfl (p + 1) 0 rfl K0.cells K0.cells rfl HRZ.out rfl Z0.out K0.one ?_; intro w9 hr9 hc9; have H9 := Lib.hid hr9; have HC9 := Lib.hid hc9; clear hr9 hc9))
      exact bodyPost_ret (results_cell_tmpB (p := 4) (t := 5) (ty := 30) rfl _ _ (p + 1) 0 _ _ _ rfl rfl H9.out Tryd.underlying30 rfl Z0.out) rfl ⟨rfl, nm_keeps_chg HKW.out HC9.out (by omega)⟩
end Go.Proofs.YtlofddoojkeakaaDoor
