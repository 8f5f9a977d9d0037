/- hdkey's Step: the early errors, and all of it. No condition. | Walking down without the secret comes to the public key of where walking with it comes, in plain words. No condition. | hdkey's Walk: step by step. No condition. | Two keys compared: a key is equal to itself. No condition. -/
import Derived.Test.YtlofddoojkeakaaDoorGE4
import Derived.Test.YtlofddoojkeakaaDoorGE3
import Derived.Test.YtlofddoojkeakaaDoorGC8
import Derived.Test.YtlofddoojkeakaaDoorGE2
namespace Go.Proofs.YtlofddoojkeakaaDoor
set_option linter.unusedVariables false
set_option linter.unusedSimpArgs false
open Go Go.RowKit Cv

set_option maxRecDepth 100000 in
set_option maxHeartbeats 4000000 in
theorem step_early (k : KD) (h : k.ok) (n : Int) (er : Int) (PR : List Int × Int) (lPR : PR.1.length = 33) (hPR : ∀ W, Calls Tryd.prog 13 #[.agg k.cells.toArray] W fun e w' => e = .returned (.tuple #[.agg (PR.1.map (Value.int .u8)).toArray, .int .i64 PR.2]) ∧ Keeps W w')
    (hc : (¬ PR.2 = 0 ∧ er = PR.2) ∨ (PR.2 = 0 ∧ k.d = 255 ∧ er = 2) ∨ (PR.2 = 0 ∧ ¬ k.d = 255 ∧ decide (2147483648 ≤ n) = true ∧ ¬ k.x = 0 ∧ er = 1)) (w : World) :
    Calls Tryd.prog 12 #[.agg k.cells.toArray, .int .u32 n] w fun e w' => e = .returned (.tuple #[.agg K0.cells.toArray, .int .i64 er]) ∧ Keeps w w' := by
  have HPT := Lib.hid hPR
  have HPRV := Lib.hid (fun W => private_k k h W)
  have ZK := Lib.hid h.sz
  have Z0 := Lib.hid K0_ok.sz
  have hkl := h.len
  have RWS := Lib.hid (fun (W : World) (p : Nat) (hr : Row W p 0 k.cells) => (h.rows hr).1)
  generalize k.cells = KC at *
  generalize PR.1 = PV at *
  generalize PR.2 = pe at *
  have HC := Lib.hid hc
  clear hc hPR
  go_enter Tryd.func12, Tryd.ntmps12
  go_upto_region 1 with (fail)
  refine cu_rows2 (fun W hk hr hr2 hs => ?_)
  obtain ⟨p, hp⟩ : ∃ p, p = w.heap.size := ⟨_, rfl⟩
  rw [← hp] at hr hr2 hs ⊢
  have hkp : w.heap.size ≤ p := by omega
  have HR := Lib.hid (show Row W p 0 KC from by simpa using hr); have HK := Lib.hid hk
  have HRZ := Lib.hid (show Row W (p + 1) 0 K0.cells from hr2)
  clear hp hk hr hr2 hs
  go_upto_region 2 with (first | (refine wpList_load_at rfl 30 (.tmp 2) rfl p 0 rfl _ _ HR.out Tryd.underlying30 rfl ZK.out ?_) | (go_at_call 13; refine (HPT.out _).mono ?_; rintro e W1 ⟨rfl, hk1⟩; have HK1 := Lib.hid hk1; clear hk1) | (refine wpList_store_row rfl 25 (.tmp 6) (.tmp 17) rfl W1.heap.size 0 rfl (zeroL33.map (Value.int .u8)) (PV.map (Value.int .u8)) rfl (Row.new _ _ _ rfl) (by rw [List.length_map, lPR]; rfl) (by rw [List.length_map, lPR]; exact sz_b33) (int_oneCell _) ?_; intro W6 hr2 hc2; have HK3 := Lib.hid (nm_keeps_chg (nm_keeps_alloc HK1.out _) hc2 HK1.out.size); clear hr2 hc2))
  have HRZ := Lib.hid (HRZ.out.keeps HK3.out); have HR := Lib.hid (HR.out.keeps HK3.out); have HKW := Lib.hid (HK.out.trans HK3.out)
  have c0 := RWS.out _ _ HR.out
  clear HK HK1 HK3
  rcases HC.out with ⟨h1, rfl⟩ | ⟨rfl, h1, rfl⟩ | ⟨rfl, h1, h2, h3, rfl⟩
  · have hne : (er != 0) = true := by rw [bne_iff_ne]; exact h1
    clear h1 HC
    go_wp2_with (first | (refine cu_build (by kernel_rfl) 30 _ rfl [] ?_ _ built_none ?_; focus rfl) | (refine wpList_store_row rfl 30 (.tmp 4) (.tmp 22) rfl (p + 1) 0 rfl K0.cells K0.cells rfl HRZ.out rfl Z0.out K0.one ?_; intro w9 hr9 hc9; have H9 := Lib.hid hr9; have HC9 := Lib.hid hc9; clear hr9 hc9))
    exact bodyPost_ret (results_cell_tmpB (p := 4) (t := 5) (ty := 30) rfl _ _ (p + 1) 0 _ _ _ rfl rfl H9.out Tryd.underlying30 rfl Z0.out) rfl ⟨rfl, nm_keeps_chg HKW.out HC9.out (by omega)⟩
  · have hd2 : (k.d == 255) = true := by rw [beq_iff_eq]; exact h1
    clear h1 HC
    go_wp2_with (first | (refine cu_build (by kernel_rfl) 30 _ rfl [] ?_ _ built_none ?_; focus rfl) | (refine wpList_store_row rfl 30 (.tmp 4) (.tmp 28) rfl (p + 1) 0 rfl K0.cells K0.cells rfl HRZ.out rfl Z0.out K0.one ?_; intro w9 hr9 hc9; have H9 := Lib.hid hr9; have HC9 := Lib.hid hc9; clear hr9 hc9))
    exact bodyPost_ret (results_cell_tmpB (p := 4) (t := 5) (ty := 30) rfl _ _ (p + 1) 0 _ _ _ rfl rfl H9.out Tryd.underlying30 rfl Z0.out) rfl ⟨rfl, nm_keeps_chg HKW.out HC9.out (by omega)⟩
  · have hd2 : (k.d == 255) = false := by rw [beq_eq_false_iff_ne]; exact h1
    rw [decide_eq_false h3] at HPRV
    clear h1 h3 HC
    go_wp2_with (first | (refine cu_load (by kernel_rfl) 30 (.tmp 2) rfl p 0 rfl _ _ HR.out Tryd.underlying30 rfl ZK.out ?_) | (go_at_call 9; refine (HPRV.out _).mono ?_; rintro e W7 ⟨rfl, hk1⟩; have HK7 := Lib.hid hk1; clear hk1) | (refine cu_build (by kernel_rfl) 30 _ rfl [] ?_ _ built_none ?_; focus rfl) | (refine wpList_store_row rfl 30 (.tmp 4) (.tmp 37) rfl (p + 1) 0 rfl K0.cells K0.cells rfl (HRZ.out.keeps HK7.out) rfl Z0.out K0.one ?_; intro w9 hr9 hc9; have H9 := Lib.hid hr9; have HC9 := Lib.hid hc9; clear hr9 hc9))
    exact bodyPost_ret (results_cell_tmpB (p := 4) (t := 5) (ty := 30) rfl _ _ (p + 1) 0 _ _ _ rfl rfl H9.out Tryd.underlying30 rfl Z0.out) rfl ⟨rfl, nm_keeps_chg (HKW.out.trans HK7.out) HC9.out (by omega)⟩
theorem kstep_any (k : KD) (h : k.ok) (n : Int) (h0 : 0 ≤ n) (h1 : n < 4294967296) (w : World) :
    Calls Tryd.prog 12 #[.agg k.cells.toArray, .int .u32 n] w fun e w' => e = .returned (.tuple #[.agg (stepV k n).1.cells.toArray, .int .i64 (stepV k n).2]) ∧ Keeps w w' := by
  by_cases hg : goodV k.x k.z = true
  · have hpr : pointR k = (pointV k.x k.z, 0) := by unfold pointR; rw [if_pos hg]
    have hpt := fun W => point_k k h W
    rw [hpr] at hpt
    by_cases hd : k.d = 255
    · have e : stepV k n = (K0, 2) := by unfold stepV; rw [if_pos hg, if_pos hd]
      rw [e]
      exact step_early k h n 2 (pointV k.x k.z, 0) (pointV_len h) hpt (.inr (.inl ⟨rfl, hd, rfl⟩)) w
    · by_cases hh : 2147483648 ≤ n ∧ ¬ k.x = 0
      · have e : stepV k n = (K0, 1) := by unfold stepV; rw [if_pos hg, if_neg hd, if_pos hh]
        rw [e]
        exact step_early k h n 1 (pointV k.x k.z, 0) (pointV_len h) hpt (.inr (.inr ⟨rfl, hd, decide_eq_true hh.1, hh.2, rfl⟩)) w
      · by_cases hn : 2147483648 ≤ n
        · exact step_hard k h n h0 h1 hg hd hh hn w
        · by_cases hx : k.x = 0
          · exact step_priv k h n h0 h1 hg hd hh hn hx w
          · exact step_pub k h n h0 h1 hg hd hh hn hx w
  · have hpr : pointR k = (zeroL33, 3) := by unfold pointR; rw [if_neg hg]
    have hpt := fun W => point_k k h W
    rw [hpr] at hpt
    have e : stepV k n = (K0, 3) := by unfold stepV; rw [if_neg hg]
    rw [e]
    exact step_early k h n 3 (zeroL33, 3) rfl hpt (.inl ⟨by decide, rfl⟩) w
theorem unp_add {pub : List Int} {t : Int} (hb : Bytes pub) (h0 : 0 ≤ t) (h : (addPV pub t).2 = 0) : (unpN (addPV pub t).1).isSome = true ∧ ¬ (addPV pub t).1.headD 0 = 0 := by
  rcases addPV_cases pub t with ⟨_, e⟩ | ⟨_, _, e⟩ | ⟨h1, a, hu, ⟨_, e⟩ | ⟨hz, e⟩⟩
  · rw [e] at h; exact absurd h (by decide)
  · rw [e] at h; exact absurd h (by decide)
  · rw [e] at h; exact absurd h (by decide)
  · rw [e]
    obtain ⟨hok, haz, hon⟩ := unpN_ok hb hu
    obtain ⟨n1, n2, n3⟩ := nv_toNat h0 h1
    have e1 : a = ⟨a.x, a.y, 1⟩ := by cases a; simp_all
    have hajr : a.jr (.aff (fp a.x) (fp a.y)) := by
      have := aff_jr (x := a.x) (y := a.y)
      rwa [← e1] at this
    have hjr := addJ_jr hok (timesJ_ok t.toNat gJ_ok 256) (P := .aff (fp a.x) (fp a.y)) (Q := mulP gP t.toNat) hon (gmul_on _) hajr (times_n gJ_ok g_on gJ_jr n1)
    have hsok := addJ_ok hok (timesJ_ok t.toNat gJ_ok 256)
    have hpo : (addP (.aff (fp a.x) (fp a.y)) (mulP gP t.toNat)).on := add_on good_p hon (gmul_on _)
    have hf := flatJ_eq hsok hjr
    generalize addP (.aff (fp a.x) (fp a.y)) (mulP gP t.toNat) = R at *
    cases R with
    | inf => exact absurd ((jr_z hsok hjr).2 rfl) hz
    | aff X Y =>
      have ex := fp_of_val X
      have ey := fp_of_val Y
      rw [hf]
      refine ⟨?_, ?_⟩
      · show (unpN (pkB X.val Y.val)).isSome = true
        rw [unpN_pk X.isLt Y.isLt (by rw [ex, ey]; exact hpo)]; rfl
      · show ¬ (2 + ((Y.val % 2 : Nat) : Int)) = 0
        omega
def KD.good (k : KD) : Prop := goodV k.x k.z = true
def hardN (n : Int) : Prop := 2147483648 ≤ n
def childK (k : KD) (n : Int) : KD := ⟨k.d + 1, fingerV k, n, (childH k n).drop 32, (childB k n).1.headD 0, (childB k n).1.drop 1⟩
theorem stepV_cases {k : KD} (hg : k.good) (n : Int) : (k.d = 255 ∧ stepV k n = (K0, 2)) ∨ (¬ k.d = 255 ∧ hardN n ∧ ¬ k.x = 0 ∧ stepV k n = (K0, 1)) ∨
    (¬ k.d = 255 ∧ ¬ (hardN n ∧ ¬ k.x = 0) ∧ ¬ (childB k n).2 = 0 ∧ stepV k n = (K0, 7)) ∨ (¬ k.d = 255 ∧ ¬ (hardN n ∧ ¬ k.x = 0) ∧ (childB k n).2 = 0 ∧ stepV k n = (childK k n, 0)) := by
  unfold stepV
  rw [if_pos (show goodV k.x k.z = true from hg)]
  by_cases h1 : k.d = 255
  · exact .inl ⟨h1, by rw [if_pos h1]⟩
  · rw [if_neg h1]
    by_cases h2 : hardN n ∧ ¬ k.x = 0
    · exact .inr (.inl ⟨h1, h2.1, h2.2, by rw [if_pos (show 2147483648 ≤ n ∧ ¬ k.x = 0 from h2)]⟩)
    · rw [if_neg (show ¬ (2147483648 ≤ n ∧ ¬ k.x = 0) from h2)]
      by_cases h3 : (childB k n).2 = 0
      · exact .inr (.inr (.inr ⟨h1, h2, h3, by rw [if_pos h3]; rfl⟩))
      · exact .inr (.inr (.inl ⟨h1, h2, h3, by rw [if_neg h3]⟩))
theorem half_u {k : KD} {n : Int} : Bytes ((childH k n).take 32) ∧ ((childH k n).take 32).length = 32 := ⟨fun x hx => childH_bytes k n x (List.mem_of_mem_take hx), by rw [List.length_take, childH_len]; rfl⟩
theorem keyB_err {x : Int} (h : errV x = 0) : keyB x = true := by
  unfold errV at h
  by_cases hk : keyB x = true
  · exact hk
  · rw [if_neg hk] at h; exact absurd h (by decide)
theorem point_head {k : KD} (hk : k.ok) (hg : k.good) : ¬ (pointV k.x k.z).headD 0 = 0 ∧ (unpN (pointV k.x k.z)).isSome = true := by
  unfold pointV
  by_cases h : k.x = 0
  · rw [if_pos h]
    have hkb := pubV_good hg h
    have hlt := key_lt hkb
    have hn := nv_eq
    obtain ⟨x, y, e, _⟩ := unp_pub (k := (be k.z).toNat) (by omega) (by omega)
    have e2 : pubV (be k.z) = pubB (be k.z).toNat := by unfold pubV; rw [if_pos hkb]
    rw [e2]
    refine ⟨?_, by rw [e]; rfl⟩
    show ¬ (2 + (((flatJ (timesJ (be k.z).toNat gJ 256)).2 % 2 : Nat) : Int)) = 0
    omega
  · rw [if_neg h]
    refine ⟨h, ?_⟩
    have : goodV k.x k.z = true := hg
    unfold goodV at this
    rwa [if_neg h] at this
theorem pubK_form {k : KD} (hk : k.ok) : (pubK k).x :: (pubK k).z = pointV k.x k.z := (cons_of (pointV_len hk)).symm
theorem pubK_x {k : KD} (hk : k.ok) (hg : k.good) : ¬ (pubK k).x = 0 := (point_head hk hg).1
theorem pubK_good {k : KD} (hk : k.ok) (hg : k.good) : (pubK k).good := by
  show goodV (pubK k).x (pubK k).z = true
  unfold goodV
  rw [if_neg (pubK_x hk hg), pubK_form hk]
  exact (point_head hk hg).2
theorem pubK_point {k : KD} (hk : k.ok) (hg : k.good) : pointV (pubK k).x (pubK k).z = pointV k.x k.z := by
  rw [← pubK_form hk]
  exact if_neg (pubK_x hk hg)
theorem pubK_self {k : KD} (h : ¬ k.x = 0) : pubK k = k := by
  unfold pubK pointV
  rw [if_neg h]
  rfl
theorem pubK_child {k : KD} (hk : k.ok) (hg : k.good) {n : Int} (hn : ¬ hardN n) : childH (pubK k) n = childH k n ∧ fingerV (pubK k) = fingerV k := by
  unfold childH fingerV
  rw [pubK_point hk hg, if_neg (show ¬ 2147483648 ≤ n from hn), if_neg (show ¬ 2147483648 ≤ n from hn)]
  exact ⟨rfl, rfl⟩
theorem finger_ok (k : KD) : (fingerV k).length = 4 ∧ Bytes (fingerV k) := ⟨by unfold fingerV; rw [List.length_take, Rip.rip160_length]; rfl, fun x hx => Rip.rip160_bytes _ x (List.mem_of_mem_take hx)⟩
theorem childB_len {k : KD} {n : Int} : (childB k n).1.length = 33 ∧ Bytes (childB k n).1 := by
  unfold childB
  split
  · exact ⟨by show (0 :: _).length = 33; rw [List.length_cons, addKV_len], fun y hy => by
      rcases List.mem_cons.1 hy with rfl | hy
      · exact ⟨by omega, by omega⟩
      · exact addKV_bytes _ _ y hy⟩
  · exact ⟨addPV_len _ _, addPV_bytes _ _⟩
theorem childK_ok {k : KD} (hk : k.ok) (hd : ¬ k.d = 255) {n : Int} (h0 : 0 ≤ n) (h1 : n < 4294967296) : (childK k n).ok := by
  have hd' := hk.d
  obtain ⟨l, b⟩ := childB_len (k := k) (n := n)
  have e := cons_of l
  refine ⟨⟨show 0 ≤ k.d + 1 by omega, show k.d + 1 < 256 by omega⟩, (finger_ok k).1, (finger_ok k).2, ⟨h0, h1⟩, ?_, ?_, ?_, ?_, ?_⟩
  · show ((childH k n).drop 32).length = 32
    rw [List.length_drop, childH_len]
  · exact fun x hx => childH_bytes k n x (List.mem_of_mem_drop hx)
  · refine b _ ?_
    show (childB k n).1.headD 0 ∈ (childB k n).1
    generalize (childB k n).1 = m at *
    cases m with
    | nil => cases l
    | cons a m => exact List.mem_cons_self
  · show ((childB k n).1.drop 1).length = 32
    rw [List.length_drop, l]
  · exact fun x hx => b x (List.mem_of_mem_drop hx)
theorem childK_good {k : KD} (hk : k.ok) (hg : k.good) {n : Int} (h : (childB k n).2 = 0) : (childK k n).good ∧ (¬ hardN n → childB (pubK k) n = ((pointV (childK k n).x (childK k n).z), 0)) ∧ (k.x = 0 → (childK k n).x = 0) ∧ (¬ k.x = 0 → ¬ (childK k n).x = 0) := by
  obtain ⟨hb, hl⟩ := half_u (k := k) (n := n)
  by_cases hx : k.x = 0
  · have hkb := pubV_good hg hx
    have hc : childB k n = ((0 :: (addKV (be k.z) (be ((childH k n).take 32))).1), (addKV (be k.z) (be ((childH k n).take 32))).2) := by unfold childB; rw [if_pos hx]
    rw [hc] at h
    have hxc : (childK k n).x = 0 := by show (childB k n).1.headD 0 = 0; rw [hc]; rfl
    have hzc : (childK k n).z = (addKV (be k.z) (be ((childH k n).take 32))).1 := by show (childB k n).1.drop 1 = _; rw [hc]; rfl
    rcases agree_cases k.z ((childH k n).take 32) hk.zb hb hk.zl hl with ⟨h1, h2⟩ | ⟨_, h2, _⟩ | ⟨_, h2, h3, h4, h5⟩
    · exact absurd (h2.symm.trans h) (by decide)
    · exact absurd h h2
    · have hkc := keyB_err h4
      refine ⟨?_, fun hn => ?_, fun _ => hxc, fun e => absurd hx e⟩
      · show goodV _ _ = true
        unfold goodV
        rw [if_pos hxc, hzc]; exact hkc
      · have hp : pointV k.x k.z = pubV (be k.z) := if_pos hx
        unfold childB
        rw [if_neg (pubK_x hk hg), pubK_form hk, (pubK_child hk hg hn).1, hp]
        refine Prod.ext ?_ h3
        rw [h5]
        show _ = pointV _ _
        unfold pointV
        rw [if_pos hxc, hzc]
  · have hc : childB k n = addPV (k.x :: k.z) (be ((childH k n).take 32)) := by unfold childB; rw [if_neg hx]
    rw [hc] at h
    have h0 := (be_u256 hb hl).1
    obtain ⟨hs, hh⟩ := unp_add hk.db h0 h
    have hform : (childK k n).x :: (childK k n).z = (addPV (k.x :: k.z) (be ((childH k n).take 32))).1 := by
      show (childB k n).1.headD 0 :: (childB k n).1.drop 1 = _
      rw [hc]; exact (cons_of (addPV_len _ _)).symm
    have hxc : ¬ (childK k n).x = 0 := by show ¬ (childB k n).1.headD 0 = 0; rw [hc]; exact hh
    refine ⟨?_, fun hn => ?_, fun e => absurd e hx, fun _ => hxc⟩
    · show goodV _ _ = true
      unfold goodV
      rw [if_neg hxc, hform]; exact hs
    · rw [pubK_self hx, hc]
      refine Prod.ext ?_ h
      show _ = pointV _ _
      unfold pointV
      rw [if_neg hxc, hform]
theorem pubK_step {k : KD} (hk : k.ok) (hg : k.good) {n : Int} (h0 : 0 ≤ n) (h1 : n < 4294967296) :
    (¬ (stepV k n).2 = 0 ∧ ¬ (stepV (pubK k) n).2 = 0) ∨ ((stepV k n).2 = 0 ∧ hardN n ∧ (stepV (pubK k) n).2 = 1 ∧ (stepV k n).1.ok ∧ (stepV k n).1.good) ∨
    ((stepV k n).2 = 0 ∧ ¬ hardN n ∧ stepV (pubK k) n = (pubK (stepV k n).1, 0) ∧ (stepV k n).1.ok ∧ (stepV k n).1.good) := by
  have hpg := pubK_good hk hg
  have hpx := pubK_x hk hg
  have hpd : (pubK k).d = k.d := rfl
  rcases stepV_cases hg n with ⟨d, e⟩ | ⟨d, hh, hx, e⟩ | ⟨d, hh, hb, e⟩ | ⟨d, hh, hb, e⟩
  · left
    rw [e]
    rcases stepV_cases hpg n with ⟨_, e2⟩ | ⟨d2, _⟩ | ⟨d2, _⟩ | ⟨d2, _⟩
    · rw [e2]; exact ⟨by decide, by decide⟩
    · exact absurd d d2
    · exact absurd d d2
    · exact absurd d d2
  · left
    rw [e, pubK_self hx, e]
    exact ⟨by decide, by decide⟩
  · left
    rw [e]
    refine ⟨by decide, ?_⟩
    rcases stepV_cases hpg n with ⟨_, e2⟩ | ⟨_, _, _, e2⟩ | ⟨_, _, _, e2⟩ | ⟨_, hh2, hb2, e2⟩
    · rw [e2]; decide
    · rw [e2]; decide
    · rw [e2]; decide
    · refine absurd ?_ hb
      by_cases hn : hardN n
      · exact absurd ⟨hn, hpx⟩ hh2
      · by_cases hx : k.x = 0
        · have hc : childB k n = ((0 :: (addKV (be k.z) (be ((childH k n).take 32))).1), (addKV (be k.z) (be ((childH k n).take 32))).2) := by unfold childB; rw [if_pos hx]
          have hp : pointV k.x k.z = pubV (be k.z) := if_pos hx
          have hc2 : childB (pubK k) n = addPV (pubV (be k.z)) (be ((childH k n).take 32)) := by
            unfold childB
            rw [if_neg hpx, pubK_form hk, (pubK_child hk hg hn).1, hp]
          obtain ⟨b2, l2⟩ := half_u (k := k) (n := n)
          rw [hc2] at hb2
          rw [hc]
          rcases agree_cases k.z ((childH k n).take 32) hk.zb b2 hk.zl l2 with ⟨h1, _⟩ | ⟨_, h2, h3⟩ | ⟨_, h2, _⟩
          · have := pubV_good hg hx
            unfold errV at h1
            rw [if_pos this] at h1
            exact absurd h1 (by decide)
          · exact h3 ▸ hb2
          · exact h2
        · rw [pubK_self hx] at hb2; exact hb2
  · obtain ⟨cg, cp, _, _⟩ := childK_good hk hg hb
    have cok := childK_ok hk d h0 h1
    rw [e]
    by_cases hn : hardN n
    · refine .inr (.inl ⟨rfl, hn, ?_, cok, cg⟩)
      rcases stepV_cases hpg n with ⟨d2, _⟩ | ⟨_, _, _, e2⟩ | ⟨_, h2, _⟩ | ⟨_, h2, _⟩
      · exact absurd d2 d
      · rw [e2]
      · exact absurd ⟨hn, hpx⟩ h2
      · exact absurd ⟨hn, hpx⟩ h2
    · refine .inr (.inr ⟨rfl, hn, ?_, cok, cg⟩)
      have hc := cp hn
      rcases stepV_cases hpg n with ⟨d2, _⟩ | ⟨_, h2, _⟩ | ⟨_, _, h2, _⟩ | ⟨_, _, _, e2⟩
      · exact absurd d2 d
      · exact absurd h2 hn
      · rw [hc] at h2; exact absurd rfl h2
      · rw [e2]
        refine Prod.ext ?_ rfl
        obtain ⟨c1, c2⟩ := pubK_child hk hg hn
        show childK (pubK k) n = pubK (childK k n)
        unfold childK
        rw [c1, c2, hc]
        rfl
def Nums (l : List Int) : Prop := ∀ n ∈ l, 0 ≤ n ∧ n < 4294967296
/-- the law of HdkeyPublic -/
theorem pubK_go : ∀ (l : List Int) (k : KD), k.ok → k.good → Nums l →
    (¬ (goV k l).2 = 0 ∧ ¬ (goV (pubK k) l).2 = 0) ∨ ((goV k l).2 = 0 ∧ (∃ n ∈ l, hardN n) ∧ (goV (pubK k) l).2 = 1 ∧ (goV k l).1.ok) ∨
    ((goV k l).2 = 0 ∧ (∀ n ∈ l, ¬ hardN n) ∧ goV (pubK k) l = (pubK (goV k l).1, 0) ∧ (goV k l).1.ok ∧ (goV k l).1.good)
  | [], k, hk, hg, _ => .inr (.inr ⟨rfl, (fun n h => by cases h), rfl, hk, hg⟩)
  | n :: l, k, hk, hg, hl => by
    obtain ⟨n0, n1⟩ := hl n List.mem_cons_self
    have hl2 : Nums l := fun m hm => hl m (List.mem_cons_of_mem _ hm)
    unfold goV
    rcases pubK_step hk hg n0 n1 with ⟨h1, h2⟩ | ⟨h1, hn, h2, hk2, hg2⟩ | ⟨h1, hn, h2, hk2, hg2⟩
    · rw [if_neg h1, if_neg h2]; exact .inl ⟨h1, h2⟩
    · rw [if_pos h1, if_neg (by rw [h2]; decide)]
      rcases pubK_go l _ hk2 hg2 hl2 with ⟨h3, _⟩ | ⟨h3, _, _, h4⟩ | ⟨h3, _, _, h4, _⟩
      · exact .inl ⟨h3, by rw [h2]; decide⟩
      · exact .inr (.inl ⟨h3, ⟨n, List.mem_cons_self, hn⟩, h2, h4⟩)
      · exact .inr (.inl ⟨h3, ⟨n, List.mem_cons_self, hn⟩, h2, h4⟩)
    · rw [if_pos h1, h2]
      rw [if_pos rfl]
      rcases pubK_go l _ hk2 hg2 hl2 with ⟨h3, h4⟩ | ⟨h3, ⟨m, hm, hh⟩, h4, h5⟩ | ⟨h3, h4, h5, h6, h7⟩
      · exact .inl ⟨h3, h4⟩
      · exact .inr (.inl ⟨h3, ⟨m, List.mem_cons_of_mem _ hm, hh⟩, h4, h5⟩)
      · exact .inr (.inr ⟨h3, fun m hm => by
          rcases List.mem_cons.1 hm with rfl | hm
          · exact hn
          · exact h4 m hm, h5, h6, h7⟩)
theorem stepV_ok {k : KD} (hk : k.ok) {n : Int} (h0 : 0 ≤ n) (h1 : n < 4294967296) : (stepV k n).1.ok := by
  by_cases hg : k.good
  · rcases stepV_cases hg n with ⟨_, e⟩ | ⟨_, _, _, e⟩ | ⟨_, _, _, e⟩ | ⟨d, _, _, e⟩ <;> rw [e]
    · exact K0_ok
    · exact K0_ok
    · exact K0_ok
    · exact childK_ok hk d h0 h1
  · unfold stepV
    rw [if_neg (show ¬ goodV k.x k.z = true from hg)]
    exact K0_ok
theorem goV_ok : ∀ (l : List Int) (k : KD), k.ok → Nums l → (goV k l).1.ok
  | [], _, hk, _ => hk
  | n :: l, k, hk, hl => by
    obtain ⟨n0, n1⟩ := hl n List.mem_cons_self
    unfold goV
    split
    · exact goV_ok l _ (stepV_ok hk n0 n1) (fun m hm => hl m (List.mem_cons_of_mem _ hm))
    · exact K0_ok
theorem walkV_ok {k : KD} (hk : k.ok) {l : List Int} (hl : Nums l) : (walkV k l).1.ok := by
  unfold walkV
  split
  · exact goV_ok l k hk hl
  · exact K0_ok
theorem drop_at {l : List Int} {i : Nat} (h : i < l.length) : l.drop i = l.getD i 0 :: l.drop (i + 1) := by
  rw [List.drop_eq_getElem_cons h]
  simp [List.getD, h]
theorem u32_cells {w : World} {a : Option Addr} {n c : Nat} {l : List Int} (hr : Rd w 1 (.slice a n c) n (l.map (Value.int .u32))) : ∀ i, i < n → ∃ g off, a = some ⟨g, off, none⟩ ∧ ∀ W, Keeps w W → W.cell? ⟨g, off + i, none⟩ = some (.int .u32 (l.getD i 0)) := fun i hi => by
  have hln : l.length = n := by have := hr.1; simpa using this
  obtain ⟨_, a', cap', e, h2, h3, h4, h5⟩ := hr
  cases e
  cases a with
  | none => have := (h4 rfl).1; omega
  | some ad =>
    obtain ⟨g, off, rfl, hg, hrow⟩ := h5 ad rfl (by omega)
    exact ⟨g, off, rfl, fun W hk => (hrow.keeps hk).int i (by omega)⟩
set_option maxRecDepth 100000 in
set_option maxHeartbeats 4000000 in
theorem kwalk_any (k : KD) (h : k.ok) (a : Option Addr) (n c : Nat) (l : List Int) (w : World) (hr : Rd w 1 (.slice a n c) n (l.map (Value.int .u32))) (hl : Nums l) :
    Calls Tryd.prog 6 #[.agg k.cells.toArray, .slice a n c] w fun e w' => e = .returned (.tuple #[.agg (walkV k l).1.cells.toArray, .int .i64 (walkV k l).2]) ∧ Keeps w w' := by
  have HC := Lib.hid (u32_cells hr)
  have HLN := Lib.hid (show l.length = n by have := hr.1; simpa using this)
  have hnx : n ≤ 9223372036854775807 := by
    obtain ⟨_, a', c', e, h2, h3, _⟩ := hr
    cases e
    unfold maxLen at h3
    omega
  have HNU := Lib.hid hl
  have HGD := Lib.hid (fun W => good_k k h W)
  have ZK := Lib.hid h.sz
  have Z0 := Lib.hid K0_ok.sz
  have HOK := Lib.hid h
  obtain ⟨R, hR⟩ : ∃ R, R = goV k l := ⟨_, rfl⟩
  have HRR := Lib.hid hR
  have hcase : (goodV k.x k.z = true ∧ R = walkV k l) ∨ (goodV k.x k.z = false ∧ walkV k l = (K0, 3)) := by
    unfold walkV
    by_cases hg : goodV k.x k.z = true
    · exact .inl ⟨hg, by rw [hR]; exact (if_pos hg).symm⟩
    · exact .inr ⟨by simpa using hg, if_neg hg⟩
  have HKL := Lib.hid h.len
  clear hr hl h hR
  generalize walkV k l = WV at *
  rcases hcase with ⟨hg, rfl⟩ | ⟨hg, rfl⟩
  all_goals
    rw [hg] at HGD
    clear hg
    obtain ⟨KC, hKC⟩ : ∃ KC, KC = k.cells := ⟨_, rfl⟩
    rw [← hKC] at HGD ZK HKL ⊢
    have HKC := Lib.hid hKC
    clear hKC
    go_enter Tryd.func6, Tryd.ntmps6
    go_upto_region 1 with (fail)
    refine cu_rows2 (fun W hk hr hr2 hs => ?_)
    obtain ⟨p, hp⟩ : ∃ p, p = w.heap.size := ⟨_, rfl⟩
    rw [← hp] at hr hr2 hs ⊢
    have hkp : w.heap.size ≤ p := by omega
    have HR := Lib.hid (show Row W p 0 KC from by simpa using hr); have HK := Lib.hid hk
    have HRZ := Lib.hid (show Row W (p + 1) 0 K0.cells from hr2)
    clear hp hk hr hr2 hs
  · go_upto_region 3 with (first | (refine wpList_load_at rfl 30 (.tmp 2) rfl p 0 rfl _ _ HR.out Tryd.underlying30 rfl ZK.out ?_) | (go_at_call 11; refine (HGD.out _).mono ?_; rintro e W1 ⟨rfl, hk1⟩; have HK1 := Lib.hid hk1; clear hk1))
    have HR1 := Lib.hid (HR.out.keeps HK1.out); have HRZ1 := Lib.hid (HRZ.out.keeps HK1.out); have HKW := Lib.hid (HK.out.trans HK1.out)
    clear HR HRZ HK HK1
    go_wp2
    go_loopw [16] (fun ci wr => ∃ (i : Nat) (kc : KD), i ≤ n ∧ ci = .int .i64 i ∧ Hid (Keeps w wr) ∧ Hid (Row wr p 0 kc.cells) ∧ Hid (Row wr (p + 1) 0 K0.cells) ∧ Hid kc.ok ∧ Hid (R = goV kc (l.drop i))) (fun ci _ => (n - intOf ci).toNat)
    case atStart => exact ⟨0, k, by omega, rfl, HKW, Lib.hid (by have := HR1.out; rw [HKC.out] at this; exact this), HRZ1, HOK, Lib.hid (by rw [HRR.out]; rfl)⟩
    case round =>
      obtain ⟨i, kc, hi, rfl, HKR, HRR2, HZZ, HOC, HGO⟩ := hrel
      by_cases hlt : i < n
      · obtain ⟨g, off, rfl, hc⟩ := HC.out i hlt
        have cz := hc wr HKR.out
        have hx := drop_at (l := l) (i := i) (by rw [HLN.out]; exact hlt)
        have hxm : l.getD i 0 ∈ l := by
          have hil : i < l.length := by rw [HLN.out]; exact hlt
          have : l.getD i 0 = l[i] := by simp [List.getD, hil]
          rw [this]; exact List.getElem_mem hil
        obtain ⟨x0, x1⟩ := HNU.out _ hxm
        have HGN := Lib.hid (show R = goV kc (l.getD i 0 :: l.drop (i + 1)) by rw [← hx]; exact HGO.out)
        have hst := fun W => kstep_any kc HOC.out (l.getD i 0) x0 x1 W
        have hso := stepV_ok HOC.out x0 x1
        have HSV := Lib.hid (show (stepV kc (l.getD i 0)).1 = (stepV kc (l.getD i 0)).1 ∧ goV kc (l.getD i 0 :: l.drop (i + 1)) = if (stepV kc (l.getD i 0)).2 = 0 then goV (stepV kc (l.getD i 0)).1 (l.drop (i + 1)) else (K0, (stepV kc (l.getD i 0)).2) from ⟨rfl, rfl⟩)
        clear hx hxm x0 x1 hc
        generalize stepV kc (l.getD i 0) = SV at *
        generalize l.getD i 0 = x at *
        have HST := Lib.hid hst; have HSO := Lib.hid hso
        have ZC := Lib.hid HOC.out.sz; have ZS := Lib.hid hso.sz; have HLS := Lib.hid (hso.len)
        clear hst hso
        go_upto_region 6 with (fail)
        clear cz
        go_upto_region 7 with (first | (refine wpList_load_at rfl 30 (.tmp 2) rfl p 0 rfl _ _ HRR2.out Tryd.underlying30 rfl ZC.out ?_) | (go_at_call 12; refine (HST.out _).mono ?_; rintro e W2 ⟨rfl, hk2⟩; have HK2 := Lib.hid hk2; clear hk2) | (refine wpList_store_row rfl 30 (.tmp 8) (.tmp 24) rfl W2.heap.size 0 rfl K0.cells SV.1.cells rfl (Row.new _ _ _ rfl) (by rw [HLS.out]; rfl) ZS.out SV.1.one ?_; intro W3 hr3 hc3; have HR3 := Lib.hid hr3; have HK3 := Lib.hid (nm_keeps_chg (nm_keeps_alloc (Keeps.refl W2) _) hc3 (Nat.le_refl _)); clear hr3 hc3))
        have HKK := Lib.hid (HK2.out.trans HK3.out)
        have HKT := Lib.hid (HKR.out.trans HKK.out)
        have HRT := Lib.hid (HRR2.out.keeps HKK.out); have HZT := Lib.hid (HZZ.out.keeps HKK.out)
        have hq : ¬ W2.heap.size = p ∧ ¬ W2.heap.size = p + 1 := by
          have h1 := HRR2.out.lt (fun e => by have := HOC.out.len; rw [e] at this; cases this); have h2 := HZZ.out.lt (fun e => by have := K0_ok.len; rw [e] at this; cases this); have h3 := HK2.out.size
          omega
        have HQ := Lib.hid hq
        clear HK2 HK3 HKK HRR2 HZZ hq
        generalize W2.heap.size = q at *
        by_cases her : SV.2 = 0
        · have HG2 := Lib.hid (show R = goV SV.1 (l.drop (i + 1)) by rw [HGN.out, HSV.out.2, if_pos her])
          have hne : (SV.2 != 0) = false := by rw [her]; rfl
          clear her HGN HSV HST
          have HKL2 := Lib.hid (show kc.cells.length = SV.1.cells.length by rw [HOC.out.len, HLS.out])
          go_wp2_with (first | (refine wpList_load_at rfl 30 (.tmp 8) rfl q 0 rfl _ _ HR3.out Tryd.underlying30 rfl ZS.out ?_) | (refine wpList_store_row rfl 30 (.tmp 2) (.tmp 30) rfl p 0 rfl kc.cells SV.1.cells rfl HRT.out HKL2.out.symm ZS.out SV.1.one ?_; intro W4 hr4 hc4; have HR4 := Lib.hid hr4; have HC4 := Lib.hid hc4; clear hr4 hc4))
          go_roundw
          case rel => exact ⟨i + 1, SV.1, by omega, by go_num, Lib.hid (nm_keeps_chg HKT.out HC4.out (by omega)), HR4, Lib.hid (HZT.out.chg HC4.out (by omega)), HSO, HG2⟩
          case measure => simp [intOf]; omega
        · have HG2 := Lib.hid (show R = (K0, SV.2) by rw [HGN.out, HSV.out.2, if_neg her])
          have hne : (SV.2 != 0) = true := by rw [bne_iff_ne]; exact her
          clear her HGN HSV HST HGO
          go_wp2_with (first | (refine cu_build (by kernel_rfl) 30 _ rfl [] ?_ _ built_none ?_; focus rfl) | (refine wpList_store_row rfl 30 (.tmp 4) (.tmp 28) rfl (p + 1) 0 rfl K0.cells K0.cells rfl HZT.out rfl Z0.out K0.one ?_; intro w9 hr9 hc9; have H9 := Lib.hid hr9; have HC9 := Lib.hid hc9; clear hr9 hc9))
          rw [HG2.out]
          exact bodyPost_ret (results_cell_tmpB (p := 4) (t := 5) (ty := 30) rfl _ _ (p + 1) 0 _ _ _ rfl rfl H9.out Tryd.underlying30 rfl Z0.out) rfl ⟨rfl, nm_keeps_chg HKT.out HC9.out (by omega)⟩
      · obtain rfl : i = n := by omega
        have HG2 := Lib.hid (show R = (kc, 0) by rw [HGO.out, List.drop_eq_nil_of_le (by rw [HLN.out]; exact Nat.le_refl _)]; rfl)
        have ZC := Lib.hid HOC.out.sz; have HLS := Lib.hid HOC.out.len
        clear HGO
        go_wp2_with (first | (refine wpList_load_at rfl 30 (.tmp 2) rfl p 0 rfl _ _ HRR2.out Tryd.underlying30 rfl ZC.out ?_) | (refine wpList_store_row rfl 30 (.tmp 4) (.tmp 32) rfl (p + 1) 0 rfl K0.cells kc.cells rfl HZZ.out (by rw [HLS.out]; rfl) ZC.out kc.one ?_; intro w9 hr9 hc9; have H9 := Lib.hid hr9; have HC9 := Lib.hid hc9; clear hr9 hc9))
        rw [HG2.out]
        exact bodyPost_ret (results_cell_tmpB (p := 4) (t := 5) (ty := 30) rfl _ _ (p + 1) 0 _ _ _ rfl rfl H9.out Tryd.underlying30 rfl ZC.out) rfl ⟨rfl, nm_keeps_chg HKR.out HC9.out (by omega)⟩
  · go_wp2_with (first | (refine wpList_load_at rfl 30 (.tmp 2) rfl p 0 rfl _ _ HR.out Tryd.underlying30 rfl ZK.out ?_) | (go_at_call 11; refine (HGD.out _).mono ?_; rintro e W1 ⟨rfl, hk1⟩; have HK1 := Lib.hid hk1; have HRZ1 := Lib.hid (HRZ.out.keeps hk1); clear hk1) | (refine cu_build (by kernel_rfl) 30 _ rfl [] ?_ _ built_none ?_; focus rfl) | (refine wpList_store_row rfl 30 (.tmp 4) (.tmp 13) rfl (p + 1) 0 rfl K0.cells K0.cells rfl HRZ1.out rfl Z0.out K0.one ?_; intro w9 hr9 hc9; have H9 := Lib.hid hr9; have HC9 := Lib.hid hc9; clear hr9 hc9))
    exact bodyPost_ret (results_cell_tmpB (p := 4) (t := 5) (ty := 30) rfl _ _ (p + 1) 0 _ _ _ rfl rfl H9.out Tryd.underlying30 rfl Z0.out) rfl ⟨rfl, nm_keeps_chg (HK.out.trans HK1.out) HC9.out (by omega)⟩
end Go.Proofs.YtlofddoojkeakaaDoor
namespace Go.Proofs.YtlofddoojkeakaaDoor
set_option linter.unusedVariables false
set_option linter.unusedSimpArgs false
open Go Go.RowKit

theorem wf_u32k {x : Int} (h0 : 0 ≤ x) (h1 : x < 4294967296) : (Lit.int .u32 x).wf = true := by
  unfold Lit.wf
  rw [Bool.and_eq_true, decide_eq_true_eq, decide_eq_true_eq]
  exact ⟨show (0 : Int) ≤ x from h0, show x ≤ (4294967295 : Int) by omega⟩
theorem key_drops {k : KD} (h : k.ok) : (k.cells.drop 0).take 1 = [.int .u8 k.d] ∧ (k.cells.drop 1).take 4 = k.fg.map (Value.int .u8) ∧ (k.cells.drop 5).take 1 = [.int .u32 k.ch] ∧ (k.cells.drop 6).take 32 = k.cc.map (Value.int .u8) ∧ (k.cells.drop 38).take 33 = (k.x :: k.z).map (Value.int .u8) := by
  have hc : (k.cc.map (Value.int .u8)).length = 32 := by rw [List.length_map, h.cl]
  have hf : (k.fg.map (Value.int .u8)).length = 4 := by rw [List.length_map, h.fl]
  have hd : ((k.x :: k.z).map (Value.int .u8)).length = 33 := by rw [List.length_map, h.dl]
  have e := key_parts k
  have e5 : k.cells.drop 5 = [Value.int .u32 k.ch] ++ (k.cc.map (Value.int .u8) ++ (k.x :: k.z).map (Value.int .u8)) := by
    rw [e, show (5 : Nat) = 1 + 4 from rfl, ← List.drop_drop]
    show List.drop 4 (k.fg.map (Value.int .u8) ++ _) = _
    rw [List.drop_left' hf]
  have e6 : k.cells.drop 6 = k.cc.map (Value.int .u8) ++ (k.x :: k.z).map (Value.int .u8) := by
    rw [show (6 : Nat) = 5 + 1 from rfl, ← List.drop_drop, e5]; rfl
  refine ⟨by rw [e]; rfl, ?_, by rw [e5]; rfl, by rw [e6, List.take_left' hc], ?_⟩
  · rw [e]
    show List.take 4 (k.fg.map (Value.int .u8) ++ _) = _
    rw [List.take_left' hf]
  · rw [show (38 : Nat) = 6 + 32 from rfl, ← List.drop_drop, e6, List.drop_left' hc, List.take_of_length_le (by rw [hd]; exact Nat.le_refl _)]
/-- the literals of a key: they tell it -/
def keyLs (k : KD) : List Lit := [Lit.int .u8 k.d] ++ (k.fg.map (Lit.int .u8) ++ ([Lit.int .u32 k.ch] ++ (k.cc.map (Lit.int .u8) ++ ((k.x :: k.z).map (Lit.int .u8) ++ []))))
theorem key_lits {k : KD} (h : k.ok) (T : TypeId) (hT : T = 30) : Tryd.prog.keyLits 3 T k.cells = some (keyLs k) := by
  subst hT
  have e1 : Tryd.prog.cellsOf 30 = 71 := by kernel_rfl
  have f0 : Tryd.prog.cellsOf 5 = 1 := by kernel_rfl
  have f1 : Tryd.prog.cellsOf 22 = 4 := by kernel_rfl
  have f2 : Tryd.prog.cellsOf 23 = 1 := by kernel_rfl
  have f3 : Tryd.prog.cellsOf 24 = 32 := by kernel_rfl
  have f4 : Tryd.prog.cellsOf 25 = 33 := by kernel_rfl
  obtain ⟨d0, d1, d2, d3, d4⟩ := key_drops h
  have l0 := hk_lits1 1 5 .u8 k.d Tryd.underlying5 (wf_u8' h.d)
  have l1 := arr_lits 0 22 5 4 .u8 Tryd.underlying22 Tryd.underlying5 f1 f0 k.fg h.fl (fun x hx => wf_u8' (h.fb x hx))
  have l2 := hk_lits1 1 23 .u32 k.ch Tryd.underlying23 (wf_u32k h.ch.1 h.ch.2)
  have l3 := arr_lits 0 24 5 32 .u8 Tryd.underlying24 Tryd.underlying5 f3 f0 k.cc h.cl (fun x hx => wf_u8' (h.cb x hx))
  have l4 := arr_lits 0 25 5 33 .u8 Tryd.underlying25 Tryd.underlying5 f4 f0 (k.x :: k.z) h.dl (fun x hx => wf_u8' (h.db x hx))
  unfold Program.keyLits
  rw [Tryd.underlying30]
  simp only [e1]
  rw [if_pos ⟨h.len, by kernel_rfl⟩]
  simp only [List.mapM_cons, List.mapM_nil, f0, f1, f2, f3, f4, d0, d1, d2, d3, d4]
  simp only [Nat.zero_add, Nat.reduceAdd] at l0 l1 l2 l3 l4
  simp only [l0, l1, l2, l3, l4]
  rfl
theorem key_equal (W : World) (k : KD) (h : k.ok) : (Op.equalIn 10000 30 (.agg k.cells.toArray) (.agg k.cells.toArray)).run Tryd.prog W = .ok true W := by
  have e1 : Tryd.prog.cellsOf 30 = 71 := by kernel_rfl
  have fm : (Value.agg k.cells.toArray).formed Tryd.prog 30 = true := by
    unfold Value.formed
    rw [Tryd.underlying30]
    simp [e1, h.len]
  have hL := key_lits h 30 rfl
  have hd := run_equalIn_deep (P := Tryd.prog) 9996 4 30 (by kernel_rfl)
  obtain ⟨r, hr, hiff⟩ := hd W 3 3 _ _ _ _ fm fm hL hL
  rw [hr, hiff.2 rfl]
end Go.Proofs.YtlofddoojkeakaaDoor
